/- The Go text of flyleaflaw22.RunsLeft returns true and writes nothing that was there. -/
import Derived.Test.YtnomklpnlohpiaaAwake
import Derived.Test.YtnomklpnlohpiaaOpen
import Derived.Test.YtnomklpnlohpiaaWithout
namespace Go.Proofs.Ytnomklpnlohpiaa
open Go.RowKit
def opL (o : Int) : Int := if o = 1 then 2 else if o = 4 then 3 else o
def fixc (c : CV) : CV := { c with pid := bits BinOp.and IntKind.i64 c.pid 3, op := opL c.op }

theorem run_make_rowN {P : Program} (t e : TypeId) (i : TypeInfo) (z : Value) (ht : P.underlying t = some (.slice e)) (hi : P.info? e = some i) (hz : i.zero = some z)
    (kl kc : IntKind) (n c : Nat) (hnc : n ≤ c) (hbytes : i.bytes * c ≤ 281474976710656) (h63 : c ≤ 9223372036854775807) (w : World) :
    (Instr.makeSlice t (.int kl (n : Int)) (.int kc (c : Int))).run P w = .ok (.slice (some ⟨w.heap.size, 0, none⟩) n c) (w.alloc (.cells (madeCells z.cells (c * i.size)) e)) := by
  have hb : (i.bytes : Int) * (c : Int) ≤ 281474976710656 := by
    have h : ((i.bytes * c : Nat) : Int) ≤ 281474976710656 := by omega
    rwa [Int.natCast_mul] at h
  have hr := run_make (P := P) w t e i z ht hi hz kl kc n c (by omega) (by omega) hb (by omega)
  simp only [Int.toNat_natCast] at hr
  exact hr

theorem told_made (w : World) (n : Nat) : ToldAt (w.alloc (.cells (madeCells #[.int .i64 0, .int .i64 0, .int .u64 0] (n * 3)) 39)) (some ⟨w.heap.size, 0, none⟩) (List.replicate n 0) := by
  intro i hi
  simp at hi
  have hg : ∀ j, j < n * 3 → (madeCells #[.int .i64 0, .int .i64 0, .int .u64 0] (n * 3))[j]? = some (#[Value.int .i64 0, .int .i64 0, .int .u64 0][j % 3]!) := by
    intro j hj
    simp [madeCells, hj]
  refine ⟨_, 0, rfl, ?_, ?_⟩
  · rw [World.cell?_alloc_at _ _ _ _ rfl, hg _ (by omega), show (0 + i * 3) % 3 = 0 from by omega]; rfl
  · rw [World.cell?_alloc_at _ _ _ _ rfl, hg _ (by omega), show (0 + i * 3 + 1) % 3 = 1 from by omega]; simp

/-- Is a call left? -/
def lft (p frm : Int) (k : Nat) (c : CV) : Bool := decide ((k : Int) < frm) || (c.pid != p) || decide (c.op < 5) || decide (11 < c.op)
theorem wst_left (cs : List CV) (ts : List Int) (p frm : Int) (h1 : ∀ c ∈ cs, c.op ≠ 1) : ∀ k (h : k < cs.length), (wst cs ts p frm k).2 = [(p, true)] ∧
    (wst cs ts p frm (k + 1)).1 = (wst cs ts p frm k).1 ++ (if lft p frm k cs[k] then [(k : Int)] else []) := by
  have key : ∀ k, k ≤ cs.length → (wst cs ts p frm k).2 = [(p, true)] := by
    intro k
    induction k with
    | zero => intro _; rfl
    | succ k ih =>
      intro hk
      simp only [wst]
      rw [getD_at (show k < cs.length by omega), ih (by omega), if_neg]
      intro h
      exact h1 _ (List.getElem_mem (show k < cs.length by omega)) h.2.1
  intro k hk
  refine ⟨key k (by omega), ?_⟩
  simp only [wst]
  rw [getD_at hk, key k (by omega)]
  have he : ((k : Int) < frm ∨ fget [(p, true)] cs[k].pid = false ∨ cs[k].op < 5 ∨ 11 < cs[k].op) ↔ lft p frm k cs[k] = true := by
    simp [lft, fget, or_assoc]
  by_cases hb : lft p frm k cs[k] = true
  · rw [if_pos (he.2 hb), if_pos hb]
  · rw [if_neg (fun h => hb (he.1 h)), if_neg hb, List.append_nil]
theorem wst_prefix (cs : List CV) (ts : List Int) (p frm : Int) (k n : Nat) (h : k ≤ n) : (wst cs ts p frm k).1 <+: (wst cs ts p frm n).1 := by
  induction n with
  | zero => have : k = 0 := by omega
            subst this; exact List.prefix_refl _
  | succ n ih =>
    by_cases e : k = n + 1
    · subst e; exact List.prefix_refl _
    · refine (ih (by omega)).trans ?_
      simp only [wst]
      split
      · exact List.prefix_append _ _
      · exact List.prefix_refl _

set_option maxRecDepth 100000 in
set_option maxHeartbeats 2000000 in
theorem left_walk (w : World) (a : Option Addr) (N cap : Nat) (_hc1 : N ≤ cap) (_hc : cap ≤ maxLen) (CS : List CV) (hL : CS.length = N) (hCS : CallsAt w a CS) (pid : Int) (_hp : (Lit.int IntKind.i64 pid).wf = true) (frm : Int) (_hf : (Lit.int IntKind.i64 frm).wf = true) :
    Calls Try.prog 4 #[.slice a N cap, .int .i64 pid, .int .i64 frm] w fun e w' => e = .returned (.bool true) ∧ Below w.heap.size w w' := by
  obtain ⟨i0, hi, hz0, hz1, hz2⟩ := info_parts Try.info30
  have HL := Lib.hid hL
  clear hL
  go_enter Try.func4, Try.ntmps4
  go_wp2_with fail
  refine (awake_any _).mono ?_
  rintro e w1 ⟨rfl, hb1⟩
  go_wp2_with fail
  go_loopw [8, 9] (fun v i wr => ∃ k : Nat, k ≤ N ∧ k ≤ 30 ∧ i = .int .i64 k ∧ wr.ownsRow w.heap.size 30 9 v k (((CS.take k).map fixc).flatMap CV.cells) ∧ Below w.heap.size w wr)
    (fun _ i _ => N - (intOf i).toNat)
  case atStart => exact ⟨0, by omega, by omega, rfl, World.ownsRow_nil _ _ _ _, hb1⟩
  case round =>
    obtain ⟨k, hk, hk3, rfl, hown, hbel⟩ := hrel
    have hsz := hbel.size
    by_cases hlt : k < N ∧ k < 30
    · obtain ⟨hlt, hlt3⟩ := hlt
      have hkc : k < CS.length := by rw [HL.out]; exact hlt
      obtain ⟨b1, o1, rfl, h1⟩ := hCS k hkc
      have l1 := World.block_lt_of_cell? w _ (h1 0 (by omega))
      have hts : CS.take (k + 1) = CS.take k ++ [CS[k]] := List.take_succ_eq_append_getElem hkc
      obtain ⟨c, hc⟩ : ∃ c, c = CS[k] := ⟨_, rfl⟩
      rw [← hc] at h1 hts
      have HTS := Lib.hid hts
      clear hc hts
      have g0 := (hbel.cell (p := ⟨b1, o1 + k * 9, none⟩) l1).trans (h1 0 (by omega))
      have g1 := (hbel.cell (p := ⟨b1, o1 + k * 9 + 1, none⟩) l1).trans (h1 1 (by omega))
      have g2 := (hbel.cell (p := ⟨b1, o1 + k * 9 + 2, none⟩) l1).trans (h1 2 (by omega))
      have g3 := (hbel.cell (p := ⟨b1, o1 + k * 9 + 3, none⟩) l1).trans (h1 3 (by omega))
      have g4 := (hbel.cell (p := ⟨b1, o1 + k * 9 + 4, none⟩) l1).trans (h1 4 (by omega))
      have g5 := (hbel.cell (p := ⟨b1, o1 + k * 9 + 5, none⟩) l1).trans (h1 5 (by omega))
      have g6 := (hbel.cell (p := ⟨b1, o1 + k * 9 + 6, none⟩) l1).trans (h1 6 (by omega))
      have g7 := (hbel.cell (p := ⟨b1, o1 + k * 9 + 7, none⟩) l1).trans (h1 7 (by omega))
      have g8 := (hbel.cell (p := ⟨b1, o1 + k * 9 + 8, none⟩) l1).trans (h1 8 (by omega))
      simp only [CV.cell] at g0 g1 g2 g3 g4 g5 g6 g7 g8
      clear h1 hCS
      obtain ⟨q, hq⟩ : ∃ q, q = bits BinOp.and IntKind.i64 c.pid 3 := ⟨_, rfl⟩
      have hbits : bits BinOp.and IntKind.i64 c.pid 3 = q := hq.symm
      have HQ := Lib.hid hbits
      clear hq
      have hone : ∀ c : CV, ∀ u ∈ c.cells, u.oneCell' = true := CV.oneCell
      have HO := Lib.hid hone
      clear hone
      have hc2 : ∀ o, opL c.op = o → fixc c = { c with pid := q, op := o } := fun o ho => by simp [fixc, ho, HQ.out]
      have HC2 := Lib.hid hc2
      clear hc2
      have hsplit : c.op = 1 ∨ c.op = 4 ∨ (c.op ≠ 1 ∧ c.op ≠ 4) := by omega
      rcases hsplit with h1 | h1 | ⟨h1, h4⟩
      · have e1 : (c.op == 1) = true := by simp [h1]
        have hf := HC2.out 2 (by simp [opL, h1])
        have HF := Lib.hid hf
        clear hf h1
        go_wp2_with (at_builtin; refine wpList_append_new (wr.alloc _) rfl _ _ 22 rfl w.heap.size 30 i0 _ 9 112 Try.underlying22 hi hz0 hz1 hz2 rfl (by decide) (hown.alloc _) rfl 1 ({ c with pid := q, op := 2 } : CV).cells (by simp) rfl rfl (HO.out _) (by unfold maxLen; omega) (by omega) (by simp; omega) ?_; intro v' w2 hown' hgrow _)
        go_roundw
        case rel =>
          refine ⟨k + 1, by omega, by omega, by go_num, ?_, (hbel.alloc hsz _).grown hgrow (by simp; omega) (fun r hr => (hown.lt r hr).1)⟩
          rw [HTS.out, List.map_append, List.flatMap_append, List.map_singleton, HF.out]
          simpa using hown'
        case measure => simp [intOf]; omega
      · have e1 : (c.op == 1) = false := by simp [h1]
        have e4 : (c.op == 4) = true := by simp [h1]
        have hf := HC2.out 3 (by simp [opL, h1])
        have HF := Lib.hid hf
        clear hf h1
        go_wp2_with (at_builtin; refine wpList_append_new (wr.alloc _) rfl _ _ 22 rfl w.heap.size 30 i0 _ 9 112 Try.underlying22 hi hz0 hz1 hz2 rfl (by decide) (hown.alloc _) rfl 1 ({ c with pid := q, op := 3 } : CV).cells (by simp) rfl rfl (HO.out _) (by unfold maxLen; omega) (by omega) (by simp; omega) ?_; intro v' w2 hown' hgrow _)
        go_roundw
        case rel =>
          refine ⟨k + 1, by omega, by omega, by go_num, ?_, (hbel.alloc hsz _).grown hgrow (by simp; omega) (fun r hr => (hown.lt r hr).1)⟩
          rw [HTS.out, List.map_append, List.flatMap_append, List.map_singleton, HF.out]
          simpa using hown'
        case measure => simp [intOf]; omega
      · have e1 : (c.op == 1) = false := by simp [h1]
        have e4 : (c.op == 4) = false := by simp [h4]
        have hf := HC2.out c.op (by simp [opL, h1, h4])
        have HF := Lib.hid hf
        clear hf h1 h4
        go_wp2_with (at_builtin; refine wpList_append_new (wr.alloc _) rfl _ _ 22 rfl w.heap.size 30 i0 _ 9 112 Try.underlying22 hi hz0 hz1 hz2 rfl (by decide) (hown.alloc _) rfl 1 ({ c with pid := q, op := c.op } : CV).cells (by simp) rfl rfl (HO.out _) (by unfold maxLen; omega) (by omega) (by simp; omega) ?_; intro v' w2 hown' hgrow _)
        go_roundw
        case rel =>
          refine ⟨k + 1, by omega, by omega, by go_num, ?_, (hbel.alloc hsz _).grown hgrow (by simp; omega) (fun r hr => (hown.lt r hr).1)⟩
          rw [HTS.out, List.map_append, List.flatMap_append, List.map_singleton, HF.out]
          simpa using hown'
        case measure => simp [intOf]; omega
    · obtain ⟨n, hn⟩ : ∃ n, n = k := ⟨_, rfl⟩
      subst hn
      have hnd : ¬ n < N ∨ (n < N ∧ ¬ n < 30) := by omega
      obtain ⟨cs, hcs⟩ : ∃ cs, cs = (CS.take n).map fixc := ⟨_, rfl⟩
      have hl : cs.length = n := by rw [hcs, List.length_map, List.length_take, HL.out]; omega
      have h14 : ∀ c ∈ cs, c.op ≠ 1 ∧ c.op ≠ 4 := by
        intro c hc
        rw [hcs] at hc
        simp only [List.mem_map] at hc
        obtain ⟨c0, _, rfl⟩ := hc
        simp only [fixc, opL]
        split <;> (try split) <;> omega
      rw [← hcs] at hown
      obtain ⟨ga, gc, hv, hca⟩ := ownsRow_calls (cs := cs) (by rw [hl]; exact hown)
      rw [hl] at hv
      subst hv
      obtain ⟨wo, rfl⟩ : ∃ wo : World, wo = wr := ⟨_, rfl⟩
      have HL2 := Lib.hid hl
      have H14 := Lib.hid h14
      obtain ⟨i1, hi1, hy0, hy1, hy2⟩ := info_parts Try.info39
      have hmk := fun W => run_make_rowN (P := Try.prog) 35 39 i1 _ Try.underlying35 hi1 hy0 .i64 .i64 n n (Nat.le_refl _) (by rw [hy2]; omega) (by omega) W
      rw [hy1] at hmk
      clear hl h14 hcs hCS hown hlt hi1 hy0 hy1 hy2 hi hz0 hz1 hz2
      obtain ⟨p, hp⟩ : ∃ p, p = bits BinOp.and IntKind.i64 pid 3 := ⟨_, rfl⟩
      have hp' : bits BinOp.and IntKind.i64 pid 3 = p := hp.symm
      clear hp
      have hta : ToldAt (wo.alloc (.cells (madeCells (Value.agg #[Value.int IntKind.i64 0, Value.int IntKind.i64 0, Value.int IntKind.u64 0]).cells (n * 3)) 39)) (some ⟨wo.heap.size, 0, none⟩) (List.replicate n 0) := told_made wo n
      have HTA := Lib.hid hta
      clear hta
      have hcs' : CallsAt (wo.alloc (.cells (madeCells (Value.agg #[Value.int IntKind.i64 0, Value.int IntKind.i64 0, Value.int IntKind.u64 0]).cells (n * 3)) 39)) ga cs := hca.below ((Below.refl _ _).alloc (Nat.le_refl _) _) (Nat.le_refl _)
      have HCA := Lib.hid hcs'
      clear hcs'
      have hwl := wst_left cs (List.replicate n 0) p frm (fun c hc => (H14.out c hc).1)
      have HWL := Lib.hid hwl
      clear hwl
      rcases hnd with hnd | ⟨hnd, hnd'⟩
      all_goals
        go_wp2_with fail
        refine (without_any _ _ _ _ _ _ _ _ cs (List.replicate n 0) HL2.out (by simp) (by omega) HCA.out HTA.out (fun c hc => (H14.out c hc).2)).mono ?_
        rintro e w2 ⟨va, rfl, hva, hb2⟩
        obtain ⟨xa, xc, hxe, hxa⟩ := ownsRow_ints hva
        subst hxe
        have b2 : Below w.heap.size w w2 := (hbel.alloc hsz _).trans (hb2.mono (by simp; omega))
        have hca2 := (HCA.out).below hb2 (Nat.le_refl _)
        clear hb2 hva hmk hbel hca hb1
        have hlen := wst_le cs (List.replicate n 0) p frm n
        obtain ⟨S, hS⟩ : ∃ S, S = (wst cs (List.replicate n 0) p frm n).1 := ⟨_, rfl⟩
        rw [← hS] at hxa hlen ⊢
        have HSS := Lib.hid hS
        clear hS
        go_wp2_with fail
        go_loopw [13, 14] (fun kv i wr => ∃ t : Nat, t ≤ n ∧ i = .int .i64 t ∧ kv = .int .i64 (wst cs (List.replicate n 0) p frm t).1.length ∧ Below w2.heap.size w2 wr)
          (fun _ i _ => n - (intOf i).toNat)
        case atStart => exact ⟨0, by omega, rfl, rfl, Below.refl _ _⟩
        case round =>
          obtain ⟨t, ht, rfl, rfl, hbx⟩ := hrel
          have hml : (wst cs (List.replicate n 0) p frm t).1.length ≤ 30 := by have := wst_le cs (List.replicate n 0) p frm t; omega
          by_cases hlt : t < n
          · have htc : t < cs.length := by rw [HL2.out]; exact hlt
            obtain ⟨b1, o1, rfl, h1⟩ := hca2 t htc
            have l1 := World.block_lt_of_cell? w2 _ (h1 0 (by omega))
            have g0 := (hbx.cell (p := ⟨b1, o1 + t * 9, none⟩) l1).trans (h1 0 (by omega))
            have g1 := (hbx.cell (p := ⟨b1, o1 + t * 9 + 1, none⟩) l1).trans (h1 1 (by omega))
            simp only [CV.cell] at g0 g1
            have hstep := (HWL.out t htc).2
            have hpre : (wst cs (List.replicate n 0) p frm (t + 1)).1 <+: S := by rw [HSS.out]; exact wst_prefix _ _ _ _ _ _ (by omega)
            clear h1 hca2
            obtain ⟨c, hc⟩ : ∃ c, c = cs[t] := ⟨_, rfl⟩
            rw [← hc] at g0 g1 hstep
            clear hc
            obtain ⟨L, hL⟩ : ∃ L, L = (wst cs (List.replicate n 0) p frm t).1 := ⟨_, rfl⟩
            rw [← hL] at hstep hml ⊢
            clear hL
            by_cases hb : lft p frm t c = true
            · rw [if_pos hb] at hstep
              have hlen1 : L.length < S.length := by
                have := hpre.length_le
                rw [hstep] at this
                simp at this
                omega
              obtain ⟨bx, ox, rfl, hx⟩ := hxa L.length hlen1
              have hxv : S[L.length] = (t : Int) := by
                have h2 := hpre.getElem (i := L.length) (by rw [hstep]; simp)
                simp only [hstep] at h2
                simpa using h2.symm
              rw [hxv] at hx
              have gx := (hbx.cell (p := ⟨bx, ox + L.length, none⟩) (World.block_lt_of_cell? w2 _ hx)).trans hx
              have HST := Lib.hid hstep
              have hne : ((t : Int) != (t : Int)) = false := by simp
              have hways : (t : Int) < frm ∨ (frm ≤ (t : Int) ∧ (c.pid != p) = true) ∨ (frm ≤ (t : Int) ∧ (c.pid != p) = false ∧ c.op < 5) ∨ (frm ≤ (t : Int) ∧ (c.pid != p) = false ∧ 5 ≤ c.op ∧ 11 < c.op) := by
                have hb' := hb
                simp only [lft, Bool.or_eq_true, decide_eq_true_eq] at hb'
                cases hpp : c.pid != p <;> simp [hpp] at hb' ⊢ <;> omega
              clear hstep hpre hx hxa hxv hb
              rcases hways with h1 | ⟨h1, h2⟩ | ⟨h1, h2, h3⟩ | ⟨h1, h2, h3, h4⟩
              all_goals
                go_wp2
                go_roundw
                case rel => exact ⟨t + 1, by omega, by go_num, by rw [HST.out]; simp, hbx⟩
                case measure => simp [intOf]; omega
            · rw [if_neg hb, List.append_nil] at hstep
              have HST := Lib.hid hstep
              have h1 : frm ≤ (t : Int) ∧ (c.pid != p) = false ∧ 5 ≤ c.op ∧ c.op ≤ 11 := by
                have hb' := hb
                simp only [lft, Bool.or_eq_true, decide_eq_true_eq] at hb'
                cases hpp : c.pid != p <;> simp [hpp] at hb' ⊢ <;> omega
              obtain ⟨h1, h2, h3, h4⟩ := h1
              clear hstep hpre hxa hb
              go_wp2
              go_roundw
              case rel => exact ⟨t + 1, by omega, by go_num, by rw [HST.out], hbx⟩
              case measure => simp [intOf]; omega
          · have htn : t = n := by omega
            subst htn
            rw [← HSS.out]
            have hee : ((S.length : Int) == (S.length : Int)) = true := by simp
            clear HSS hml
            go_wp2
            go_ret
            exact ⟨rfl, b2.trans (hbx.mono b2.size)⟩
end Go.Proofs.Ytnomklpnlohpiaa
