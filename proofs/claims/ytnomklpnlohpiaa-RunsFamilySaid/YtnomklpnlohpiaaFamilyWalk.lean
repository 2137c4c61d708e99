/- The Go text of flyleaflaw22.RunsFamily returns true and writes nothing that was there. -/
import Derived.Test.YtnomklpnlohpiaaOf2
import Derived.Test.YtnomklpnlohpiaaAwake
import Derived.Test.YtnomklpnlohpiaaOpen
import Derived.Test.YtnomklpnlohpiaaBits
namespace Go.Proofs.Ytnomklpnlohpiaa
open Go.RowKit
set_option linter.unusedVariables false

def fCV (op pid : Int) : CV := ⟨op, pid, 0, 0, 0, ⟨#[]⟩, none, 0, 0, none, 0, 0, 0⟩
def famC (n t : Nat) : List CV := (List.range n).map (fun (i : Nat) => fCV 1 ((i : Int) + 1)) ++ (List.range t).map (fun (i : Nat) => fCV 5 ((i : Int) + 1))
def famT (n t : Nat) : List Int := (List.range n).map (fun (i : Nat) => (i : Int) + 1 + 1) ++ List.replicate t 0
theorem famC_length (n t : Nat) : (famC n t).length = n + t := by simp [famC]
theorem famT_length (n t : Nat) : (famT n t).length = n + t := by simp [famT]
theorem famC_one (t : Nat) : famC (t + 1) 0 = famC t 0 ++ [fCV 1 ((t : Int) + 1)] := by simp [famC, List.range_succ]
theorem famT_one (t : Nat) : famT (t + 1) 0 = famT t 0 ++ [(t : Int) + 1 + 1] := by simp [famT, List.range_succ]
theorem famC_two (n t : Nat) : famC n (t + 1) = famC n t ++ [fCV 5 ((t : Int) + 1)] := by simp [famC, List.range_succ]
theorem famT_two (n t : Nat) : famT n (t + 1) = famT n t ++ [0] := by simp [famT, List.replicate_succ']
theorem famC_op (n t : Nat) : ∀ c ∈ famC n t, c.op ≠ 4 := by
  intro c hc
  simp only [famC, List.mem_append, List.mem_map] at hc
  rcases hc with ⟨i, _, rfl⟩ | ⟨i, _, rfl⟩ <;> simp [fCV]
theorem fam_law : ∀ n : Fin 9, 1 ≤ n.val → ∀ k : Fin 9, k.val ≤ n.val →
    (wst (famC n (n + 1)) (famT n (n + 1)) ((k.val : Int) + 1) 0 (n + (n + 1))).1.length = n + k ∧ (wst (famC n (n + 1)) (famT n (n + 1)) ((k.val : Int) + 1) n (n + (n + 1))).1.length = n + n ∧ (ofL 1 ((famC n (n + 1)).zip (famT n (n + 1)))).length = 2 := by
  decide +kernel
theorem row_beside {w w' : World} {b1 e1 s1 n b2 e2 s2 m : Nat} {v u : Value} {xs ys : List Value} (h1 : w.ownsRow b1 e1 s1 v n xs) (h2 : w.ownsRow b2 e2 s2 u m ys) (he : e1 ≠ e2) (hg : w.grownBy w' v.ownBlock) : w'.ownsRow b2 e2 s2 u m ys := by
  refine h2.kept hg ?_
  rcases h2.2 with ⟨rfl, _⟩ | ⟨r, cap, cur, rfl, _, hr, _⟩
  · simp [Value.ownBlock]
  · simp only [Value.ownBlock]
    right
    intro e
    rcases h1.2 with ⟨rfl, _⟩ | ⟨r', cap', cur', rfl, _, hr', _⟩
    · simp at e
    · cases e
      rw [hr] at hr'
      cases hr'
      exact he rfl
theorem told_flat : ∀ (ts : List Int) (i j : Nat) (h : i < ts.length), j < 3 → (ts.flatMap toldL)[i * 3 + j]? = (toldL ts[i])[j]? := by
  intro ts
  induction ts with
  | nil => intro i j h; exact absurd h (by simp)
  | cons t ts ih =>
    intro i j h hj
    rw [List.flatMap_cons]
    cases i with
    | zero =>
      rw [List.getElem?_append_left (by simp [toldL]; omega)]
      simp
    | succ i =>
      have e3 : (toldL t).length = 3 := rfl
      rw [List.getElem?_append_right (by rw [e3]; omega), e3, show (i + 1) * 3 + j - 3 = i * 3 + j by omega]
      simpa using ih i j (by simpa using h) hj
theorem ownsRow_told {w : World} {base : Nat} {v : Value} {ts : List Int} (hpos : 0 < ts.length) (h : w.ownsRow base 39 3 v ts.length (ts.flatMap toldL)) :
    ∃ g cap, v = .slice (some ⟨g, 0, none⟩) ts.length cap ∧ Told3At w g 0 ts ∧ ToldAt w (some ⟨g, 0, none⟩) ts := by
  rcases h.2 with ⟨rfl, hn⟩ | ⟨g, cap, cur, rfl, hb, hg, _, _, _, ht⟩
  · omega
  · have key : ∀ i j (hi : i < ts.length), j < 3 → w.cell? ⟨g, 0 + i * 3 + j, none⟩ = (toldL ts[i])[j]? := by
      intro i j hi hj
      rw [cell_of_row w _ _ _ _ _ hg, Nat.zero_add, ← told_flat ts i j hi hj, ← ht, List.getElem?_take, if_pos (by omega)]
      simp
    exact ⟨g, cap, rfl, fun i hi => ⟨key i 0 hi (by omega), key i 1 hi (by omega), key i 2 hi (by omega)⟩, fun i hi => ⟨g, 0, rfl, key i 0 hi (by omega), key i 1 hi (by omega)⟩⟩
theorem ownsRow_callsP {w : World} {base : Nat} {v : Value} {cs : List CV} (hpos : 0 < cs.length) (h : w.ownsRow base 30 9 v cs.length (cs.flatMap CV.cells)) :
    ∃ g cap, v = .slice (some ⟨g, 0, none⟩) cs.length cap ∧ cs.length ≤ cap ∧ g < w.heap.size ∧ CallsAt w (some ⟨g, 0, none⟩) cs := by
  rcases h.2 with ⟨rfl, hn⟩ | ⟨g, cap, cur, rfl, hb, hg, hq1, hq2, hq3, ht⟩
  · omega
  · exact ⟨g, cap, rfl, hq1, lt_of_block hg, CallsAt.of_row hg ht⟩
theorem toldL_one (t : Int) : ∀ u ∈ toldL t, u.oneCell' = true := by
  intro u hu
  simp only [toldL, List.mem_cons, List.not_mem_nil, or_false] at hu
  rcases hu with rfl | rfl | rfl <;> rfl
theorem fam_law2 {n k : Nat} (h1 : 1 ≤ n) (h8 : n ≤ 8) (hk : k ≤ n) : (wst (famC n (n + 1)) (famT n (n + 1)) ((k : Int) + 1) 0 (n + (n + 1))).1.length = n + k ∧ (wst (famC n (n + 1)) (famT n (n + 1)) ((k : Int) + 1) n (n + (n + 1))).1.length = n + n ∧ (ofL 1 ((famC n (n + 1)).zip (famT n (n + 1)))).length = 2 :=
  fam_law ⟨n, by omega⟩ h1 ⟨k, by omega⟩ hk
theorem tmod_bdF (x m : Int) (hm : 0 < m) : -m < x.tmod m ∧ x.tmod m < m := by
  have h1 := Int.natAbs_tmod x m
  have h2 := Nat.mod_lt x.natAbs (show 0 < m.natAbs by omega)
  omega
set_option maxRecDepth 100000 in
set_option maxHeartbeats 4000000 in
theorem family_walk (w : World) (deep : Int) (hd : (Lit.int IntKind.i64 deep).wf = true) (of_ : Int) (ho : (Lit.int IntKind.i64 of_).wf = true) :
    Calls Try.prog 5 #[.int .i64 deep, .int .i64 of_] w fun e w' => e = .returned (.bool true) ∧ Below w.heap.size w w' := by
  obtain ⟨i0, hi, hz0, hz1, hz2⟩ := info_parts Try.info30
  obtain ⟨i1, hj, hy0, hy1, hy2⟩ := info_parts Try.info39
  obtain ⟨m, hm, hm7⟩ : ∃ k : Nat, bits BinOp.and IntKind.i64 deep 7 = (k : Int) ∧ k ≤ 7 := ⟨(deep % 8).toNat, by rw [and7]; omega, by omega⟩
  obtain ⟨n, hn⟩ : ∃ n, n = m + 1 := ⟨_, rfl⟩
  have hn1 : IntKind.i64.wrap (1 + (m : Int)) = (n : Int) := by rw [IntKind.wrap_i64]; omega
  have hn8 : 1 ≤ n ∧ n ≤ 8 := by omega
  obtain ⟨rr, hrr, hr0, hr1⟩ : ∃ r, of_.tmod ((n : Int) + 1) = r ∧ -((n : Int) + 1) < r ∧ r < (n : Int) + 1 := ⟨_, rfl, (tmod_bdF of_ (n + 1) (by omega)).1, (tmod_bdF of_ (n + 1) (by omega)).2⟩
  have hm1 := Int.emod_nonneg (rr + n + 1) (show (n : Int) + 1 ≠ 0 by omega)
  have hm2 := Int.emod_lt_of_pos (rr + n + 1) (show 0 < (n : Int) + 1 by omega)
  obtain ⟨k, hk⟩ := Int.eq_ofNat_of_zero_le hm1
  rw [hk] at hm2
  have hkn : k ≤ n := by omega
  obtain ⟨f1, f2, f3⟩ := fam_law2 hn8.1 hn8.2 hkn
  have HF := Lib.hid (And.intro f1 (And.intro f2 f3))
  have HKK := Lib.hid hk
  clear f1 f2 f3 hm1 hm2 hn
  go_enter Try.func5, Try.ntmps5
  go_wp2_with fail
  refine (awake_any _).mono ?_
  rintro e w1 ⟨rfl, hb1⟩
  go_wp2_with fail
  rw [HKK.out]
  go_loopw [8, 9, 10] (fun v u i wx => ∃ t : Nat, t ≤ n ∧ i = .int .i64 ((t : Int) + 1) ∧ wx.ownsRow w.heap.size 30 9 v (famC t 0).length ((famC t 0).flatMap CV.cells) ∧ wx.ownsRow w.heap.size 39 3 u (famT t 0).length ((famT t 0).flatMap toldL) ∧ Below w.heap.size w wx)
    (fun _ _ i _ => n + 1 - (intOf i).toNat)
  case atStart => exact ⟨0, by omega, rfl, World.ownsRow_nil _ _ _ _, World.ownsRow_nil _ _ _ _, hb1⟩
  case round =>
    clear hb1
    obtain ⟨t, ht, rfl, hv, hu, hB⟩ := hrel
    have hzs := hB.size
    have hl1 := famC_length t 0
    have hl2 := famT_length t 0
    by_cases hlt : t < n
    · have HC1 := Lib.hid (famC_one t)
      have HT1 := Lib.hid (famT_one t)
      have HL := Lib.hid (And.intro hl1 hl2)
      have b1 : (famC t 0).length + 1 ≤ 100 := by omega
      have b2 : (famT t 0).length + 1 ≤ 100 := by omega
      clear hl1 hl2
      go_wp2_with (first
        | (at_builtin; refine wpList_append_new wr rfl _ _ 22 rfl w.heap.size 30 i0 _ 9 112 Try.underlying22 hi hz0 hz1 hz2 rfl (by decide) hv rfl 1 (fCV 1 ((t : Int) + 1)).cells rfl rfl rfl (CV.oneCell _) (by unfold maxLen; omega) (by omega) hzs ?_; intro v' w2 hv' hgrow _; have hu2 := row_beside hv hu (by decide) hgrow; have hB2 := hB.grown hgrow hzs (fun r hr => (hv.lt r hr).1); have hz2' := hB2.size; clear hv hu hB)
        | (at_builtin; refine wpList_append_new w2 rfl _ _ 35 rfl w.heap.size 39 i1 _ 3 24 Try.underlying35 hj hy0 hy1 hy2 rfl (by decide) hu2 rfl 1 (toldL ((t : Int) + 1 + 1)) rfl rfl rfl (toldL_one _) (by unfold maxLen; omega) (by omega) hz2' ?_; intro u' w3 hu' hgrow2 _; have hv3 := row_beside hu2 hv' (by decide) hgrow2; have hB3 := hB2.grown hgrow2 hz2' (fun r hr => (hu2.lt r hr).1)))
      go_roundw
      case rel => exact ⟨t + 1, by omega, by go_num, by rw [HC1.out]; simpa using hv3, by rw [HT1.out]; simpa using hu', hB3⟩
      case measure => simp [intOf]; omega
    · have htn : t = n := by omega
      subst htn
      obtain ⟨n, hnn⟩ : ∃ n, n = t := ⟨_, rfl⟩
      subst hnn
      clear hl1 hl2
      go_wp2_with fail
      obtain ⟨wo, rfl⟩ : ∃ wo : World, wo = wr := ⟨_, rfl⟩
      go_loopw [8, 9, 11] (fun v u i wx => ∃ t : Nat, t ≤ n + 1 ∧ i = .int .i64 ((t : Int) + 1) ∧ wx.ownsRow w.heap.size 30 9 v (famC n t).length ((famC n t).flatMap CV.cells) ∧ wx.ownsRow w.heap.size 39 3 u (famT n t).length ((famT n t).flatMap toldL) ∧ Below w.heap.size w wx)
        (fun _ _ i _ => n + 2 - (intOf i).toNat)
      case atStart => exact ⟨0, by omega, rfl, hv, hu, hB⟩
      case round =>
        clear hv hu hB hzs
        obtain ⟨t, ht, rfl, hv, hu, hB⟩ := hrel
        have hzs := hB.size
        have hl1 := famC_length n t
        have hl2 := famT_length n t
        by_cases hlt : t < n + 1
        · have HC1 := Lib.hid (famC_two n t)
          have HT1 := Lib.hid (famT_two n t)
          have HL := Lib.hid (And.intro hl1 hl2)
          have b1 : (famC n t).length + 1 ≤ 100 := by omega
          have b2 : (famT n t).length + 1 ≤ 100 := by omega
          clear hl1 hl2
          go_wp2_with (first
            | (at_builtin; refine wpList_append_new wr rfl _ _ 22 rfl w.heap.size 30 i0 _ 9 112 Try.underlying22 hi hz0 hz1 hz2 rfl (by decide) hv rfl 1 (fCV 5 ((t : Int) + 1)).cells rfl rfl rfl (CV.oneCell _) (by unfold maxLen; omega) (by omega) hzs ?_; intro v' w2 hv' hgrow _; have hu2 := row_beside hv hu (by decide) hgrow; have hB2 := hB.grown hgrow hzs (fun r hr => (hv.lt r hr).1); have hz2' := hB2.size; clear hv hu hB)
            | (at_builtin; refine wpList_append_new w2 rfl _ _ 35 rfl w.heap.size 39 i1 _ 3 24 Try.underlying35 hj hy0 hy1 hy2 rfl (by decide) hu2 rfl 1 (toldL 0) rfl rfl rfl (toldL_one _) (by unfold maxLen; omega) (by omega) hz2' ?_; intro u' w3 hu' hgrow2 _; have hv3 := row_beside hu2 hv' (by decide) hgrow2; have hB3 := hB2.grown hgrow2 hz2' (fun r hr => (hu2.lt r hr).1)))
          go_roundw
          case rel => exact ⟨t + 1, by omega, by go_num, by rw [HC1.out]; simpa using hv3, by rw [HT1.out]; simpa using hu', hB3⟩
          case measure => simp [intOf]; omega
        · have htn : t = n + 1 := by omega
          subst htn
          obtain ⟨ga, gc, rfl, hgc, hga, hca⟩ := ownsRow_callsP (by omega) hv
          obtain ⟨gb, gd, rfl, h3, h2⟩ := ownsRow_told (by omega) hu
          have hgb : gb < wr.heap.size := World.block_lt_of_cell? wr _ (h3 0 (by omega)).1
          obtain ⟨M, hM⟩ : ∃ M, M = n + (n + 1) := ⟨_, rfl⟩
          have hlc : (famC n (n + 1)).length = M := by omega
          have hlt' : (famT n (n + 1)).length = M := by omega
          have HLC := Lib.hid hlc
          have HLT := Lib.hid hlt'
          rw [hlc] at hgc ⊢
          rw [hlt']
          have hM17 : M ≤ 17 := by omega
          have h2 := Lib.hid h2
          have h3 := Lib.hid h3
          have hca := Lib.hid hca
          have hMI : (M : Int) - 1 = ((n + n : Nat) : Int) := by omega
          have hkI : (n : Int) + (1 + (k : Int)) - 1 = ((n + k : Nat) : Int) := by omega
          have HF2 := HF.out
          rw [← hM] at HF2
          have HF3 := Lib.hid HF2
          clear HF HF2 hv hu hl1 hl2 hlc hlt' hM
          go_wp2_with fail
          refine (without_any _ _ _ _ _ _ _ _ (famC n (n + 1)) (famT n (n + 1)) HLC.out HLT.out (by omega) hca.out h2.out (famC_op _ _)).mono ?_
          rintro e w2 ⟨va, rfl, hva, hb2⟩
          obtain ⟨xa, xc, hxe, _⟩ := ownsRow_ints hva
          rw [show 1 + (k : Int) = (k : Int) + 1 by omega, HF3.out.1] at hxe
          subst hxe
          have hca2 := Lib.hid (hca.out.below hb2 (Nat.le_refl _))
          have h32 := Lib.hid (h3.out.below hb2 hgb)
          have h22 := Lib.hid (h2.out.below hb2 (Nat.le_refl _))
          have hB2 := hB.trans (hb2.mono hzs)
          have hz2 := hB2.size
          have hga2 : ga < w2.heap.size := Nat.lt_of_lt_of_le hga hb2.size
          have hgb2 : gb < w2.heap.size := Nat.lt_of_lt_of_le hgb hb2.size
          clear hva hb2 hB hca h2 h3
          go_wp2_with fail
          refine (without_any _ _ _ _ _ _ _ _ (famC n (n + 1)) (famT n (n + 1)) HLC.out HLT.out (by omega) hca2.out h22.out (famC_op _ _)).mono ?_
          rintro e w3 ⟨vb, rfl, hvb, hb3⟩
          obtain ⟨xb, xd, hxe, _⟩ := ownsRow_ints hvb
          rw [show 1 + (k : Int) = (k : Int) + 1 by omega, HF3.out.2.1] at hxe
          subst hxe
          have hca3 := Lib.hid (hca2.out.below hb3 (Nat.le_refl _))
          have h33 := Lib.hid (h32.out.below hb3 hgb2)
          have hB3 := hB2.trans (hb3.mono hz2)
          have hz3 := hB3.size
          have hga3 : ga < w3.heap.size := Nat.lt_of_lt_of_le hga2 hb3.size
          have hgb3 : gb < w3.heap.size := Nat.lt_of_lt_of_le hgb2 hb3.size
          clear hvb hb3 hB2 hca2 h22 h32
          have e1 : ((n : Int) + (k : Int)) = (n : Int) + (1 + (k : Int)) - 1 := by omega
          have e2 : ((n : Int) + (k : Int) == (n : Int) + (1 + (k : Int)) - 1) = true := by simp; omega
          have e3 : ((n : Int) + (n : Int) == (M : Int) - 1) = true := by simp; omega
          have m1 : M ≤ n + n + 1 := by omega
          have m2 : n + n + 1 ≤ M := by omega
          clear hMI hkI e1
          go_wp2_with fail
          all_goals (try (exfalso; omega))
          refine (of_any _ ga 0 gb 0 M gc gd 1 (famC n (n + 1)) (famT n (n + 1)) HLC.out HLT.out (by omega) hgc hga3 hgb3 hca3.out h33.out).mono ?_
          rintro e w4 ⟨vc, rfl, hvc, hb4⟩
          rw [HF3.out.2.2] at hvc
          obtain ⟨xe, xf, rfl, _⟩ := ownsRow_shape hvc
          have hB4 := hB3.trans (hb4.mono hz3)
          clear hvc
          go_wp2_with fail
          go_ret
          exact ⟨rfl, hB4⟩
end Go.Proofs.Ytnomklpnlohpiaa
