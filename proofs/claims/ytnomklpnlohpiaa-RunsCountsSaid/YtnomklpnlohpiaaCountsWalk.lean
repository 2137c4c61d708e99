/- The Go text of flyleaflaw22.RunsCounts returns true and writes nothing that was there. -/
import Derived.Test.YtnomklpnlohpiaaAwake
import Derived.Test.YtnomklpnlohpiaaPick
import Derived.Test.YtnomklpnlohpiaaSameCalls
import Derived.Deep.DeepCutAuto
namespace Go.Proofs.Ytnomklpnlohpiaa
open Go.RowKit

set_option maxHeartbeats 400000 in
theorem few_any (w : World) (a : Option Addr) (n cap : Nat) (hn : n ≤ cap) (hc : cap ≤ maxLen) :
   Calls Try.prog 7 #[.slice a n cap] w fun e w' => e = .returned (.slice a (min n 30) cap) ∧ w = w' := by
  unfold maxLen at hc
  by_cases h : 30 < n
  · have hm : min n 30 = 30 := by omega
    have HM := Lib.hid hm
    clear hm
    go_enter Try.func7, Try.ntmps7
    go_wp2
    go_ret
    rw [HM.out]
    exact ⟨rfl, rfl⟩
  · have hm : min n 30 = n := by omega
    have HM := Lib.hid hm
    clear hm
    go_enter Try.func7, Try.ntmps7
    go_wp2
    go_ret
    rw [HM.out]
    exact ⟨rfl, rfl⟩

theorem CallsAt.drop' {w : World} {a : Option Addr} {cs : List CV} (h : CallsAt w a cs) (k : Nat) : CallsAt w (a.map (·.add (k * 9))) (cs.drop k) := by
  intro i hi
  simp at hi
  obtain ⟨b, off, rfl, hc⟩ := h (k + i) (by omega)
  refine ⟨b, off + k * 9, ?_, fun j hj => ?_⟩
  · simp [Addr.add]
  · have := hc j hj
    rw [show off + k * 9 + i * 9 + j = off + (k + i) * 9 + j from by omega, this]
    simp

def upTo (t : Nat) : List Int := (List.range t).map Int.ofNat
theorem upTo_succ (t : Nat) : upTo (t + 1) = upTo t ++ [(t : Int)] := by simp [upTo, List.range_succ]

theorem pickL_upTo (cs : List CV) : ∀ t, t ≤ cs.length → pickL cs (upTo t) = cs.take t := by
  intro t
  induction t with
  | zero => intro _; rfl
  | succ t ih =>
    intro h
    rw [upTo_succ, pickL_snoc, ih (by omega), if_pos (by omega), List.take_succ_eq_append_getElem (by omega)]
    simp [List.getElem?_eq_getElem (show t < cs.length by omega)]
theorem pickL_all (cs : List CV) (t : Nat) (h : cs.length = t) : pickL cs (upTo t ++ [(t : Int), -1]) = cs := by
  rw [show upTo t ++ [(t : Int), -1] = (upTo t ++ [(t : Int)]) ++ [-1] from by simp, pickL_snoc, pickL_snoc, pickL_upTo cs t (by omega), List.take_of_length_le (by omega)]
  simp [h]

theorem tmod_bd (x m : Int) (hm : 0 < m) : -m < x.tmod m ∧ x.tmod m < m := by
  have h1 := Int.natAbs_tmod x m
  have h2 := Nat.mod_lt x.natAbs (show 0 < m.natAbs by omega)
  omega
theorem mod_at (x : Int) (n : Nat) (hn : n ≤ 30) : ∃ k : Nat, k ≤ n ∧ (wrap64 (wrap64 (x.tmod (↑n + 1) + ↑n) + 1)).tmod (↑n + 1) = (k : Int) := by
  have h := tmod_bd x (n + 1) (by omega)
  have e1 : wrap64 (x.tmod (↑n + 1) + ↑n) = x.tmod (↑n + 1) + ↑n := by unfold wrap64; omega
  have e2 : wrap64 (x.tmod (↑n + 1) + ↑n + 1) = x.tmod (↑n + 1) + ↑n + 1 := by unfold wrap64; omega
  rw [e1, e2, Int.tmod_eq_emod_of_nonneg (by omega)]
  have h3 := Int.emod_nonneg (x.tmod (↑n + 1) + ↑n + 1) (show (n : Int) + 1 ≠ 0 by omega)
  have h4 := Int.emod_lt_of_pos (x.tmod (↑n + 1) + ↑n + 1) (show 0 < (n : Int) + 1 by omega)
  exact ⟨_, by omega, (Int.toNat_of_nonneg h3).symm⟩

set_option maxRecDepth 100000 in
set_option maxHeartbeats 2000000 in
theorem walk (w : World) (a : Option Addr) (N cap : Nat) (at_ : Int) (hc1 : N ≤ cap) (hc : cap ≤ maxLen)
   (CS : List CV) (hL : CS.length = N) (hCS : CallsAt w a CS) :
    Calls Try.prog 3 #[.slice a N cap, .int .i64 at_] w fun e w' => e = .returned (.bool true) ∧ Below w.heap.size w w' := by
  unfold maxLen at hc
  go_enter Try.func3, Try.ntmps3
  go_wp2_with fail
  refine (awake_any _).mono ?_
  rintro e w1 ⟨rfl, hb1⟩
  go_wp2_with fail
  refine (few_any _ _ _ _ hc1 (by unfold maxLen; omega)).mono ?_
  rintro e w2 ⟨rfl, rfl⟩
  obtain ⟨n, hnE⟩ : ∃ n, n = min N 30 := ⟨_, rfl⟩
  obtain ⟨cs, hcsE⟩ : ∃ cs, cs = CS.take 30 := ⟨_, rfl⟩
  rw [← hnE]
  have hn : n ≤ 30 := by omega
  have hc2 : n ≤ cap := by omega
  have HL : Hid (cs.length = n) := Lib.hid (by rw [hcsE, List.length_take, hL, hnE]; omega)
  have hcs : CallsAt w a cs := by rw [hcsE]; exact hCS.take 30
  clear hnE hcsE hL hCS hc1
  go_wp2_with fail
  obtain ⟨k, hk, hke⟩ := mod_at at_ n hn
  simp only [hke]
  clear hke
  refine (count_at _ _ _ _ cs HL.out hn (hcs.below hb1 (Nat.le_refl _))).mono ?_
  rintro e w2 ⟨g1, hg1, rfl, hr1, hb2⟩
  have HR1 := Lib.hid hr1
  clear hr1
  go_wp2_with fail
  refine (count_at _ _ _ _ (cs.take k) (by rw [List.length_take, HL.out]; omega) (by omega) ((hcs.take k).below (hb1.trans (hb2.mono hb1.size)) (Nat.le_refl _))).mono ?_
  rintro e w3 ⟨g2, hg2, rfl, hr2, hb3⟩
  have HR2 := Lib.hid hr2
  clear hr2
  have hcd : CallsAt w3 (a.map (·.add (k * 9))) (cs.drop k) := (hcs.drop' k).below ((hb1.trans (hb2.mono hb1.size)).trans (hb3.mono (Nat.le_trans hb1.size hb2.size))) (Nat.le_refl _)
  have b3 := (hb1.trans (hb2.mono hb1.size)).trans (hb3.mono (Nat.le_trans hb1.size hb2.size))
  have z1 := hb1.size
  have z2 := hb2.size
  have z3 := hb3.size
  have hrest : ∀ (a' : Option Addr) (l' c' : Nat), (l' = (cs.drop k).length ∧ CallsAt w3 a' (cs.drop k)) → True := fun _ _ _ _ => trivial
  have hlen : (cs.drop k).length = n - k := by rw [List.length_drop, HL.out]
  have HLEN := Lib.hid hlen
  clear hlen hrest
  have e11 : ((11 : Int) != (11 : Int)) = false := by decide
  go_upto_region 6 with (fail)
  go_cut [10] (fun s10 wx => ∃ g3, s10 = .slice (some ⟨g3, 0, none⟩) 11 11 ∧ wx.heap[g3]? = some (.cells (cntL (cs.drop k)).toArray 43 (0, 0)) ∧ Below w3.heap.size w3 wx)
  case first =>
    by_cases hck : k = cap
    · subst hck
      have hz : (cs.drop k).length = 0 := by rw [HLEN.out]; omega
      have hcd0 : CallsAt w3 a (cs.drop k) := fun i hi => by omega
      clear hcd
      have HZ := Lib.hid hz
      clear hz
      go_wp2_with fail
      refine (count_at _ _ _ _ (cs.drop k) HZ.out (by omega) hcd0).mono ?_
      rintro e w4 ⟨g3, hg3, rfl, hr3, hb4⟩
      go_wp2_with fail
      go_meet
      exact ⟨g3, rfl, hr3, hb4⟩
    · go_wp2_with fail
      refine (count_at _ _ _ _ (cs.drop k) HLEN.out (by omega) hcd).mono ?_
      rintro e w4 ⟨g3, hg3, rfl, hr3, hb4⟩
      go_wp2_with fail
      go_meet
      exact ⟨g3, rfl, hr3, hb4⟩
  case rest =>
    obtain ⟨g3, rfl, hr3, hb4⟩ := hcut
    obtain ⟨w4, rfl⟩ : ∃ w4 : World, w4 = wc := ⟨_, rfl⟩
    have z4 := hb4.size
    have q1 : w4.heap[g1]? = some (.cells (cntL cs).toArray 43 (0, 0)) := by
      rw [(hb3.trans (hb4.mono z3)).block g1 (lt_of_block HR1.out)]; exact HR1.out
    have q2 : w4.heap[g2]? = some (.cells (cntL (cs.take k)).toArray 43 (0, 0)) := by
      rw [hb4.block g2 (lt_of_block HR2.out)]; exact HR2.out
    have b4 : Below w.heap.size w w4 := b3.trans (hb4.mono (by omega))
    have hsum : ∀ j, cnt cs j = cnt (cs.take k) j + cnt (cs.drop k) j := fun j => by rw [← cnt_append, List.take_append_drop]
    have Q1 := Lib.hid q1
    have Q2 := Lib.hid q2
    have Q3 := Lib.hid hr3
    have HS := Lib.hid hsum
    clear q1 q2 hr3 hsum HR1 HR2 hb2 hb3 hb4 b3
    go_wp2_with fail
    go_loopw [11, 12] (fun s i wr => ∃ j : Nat, j ≤ 11 ∧ i = .int .i64 j ∧ s = .int .i64 (sumTo cs j) ∧ Below w4.heap.size w4 wr)
      (fun _ i _ => 11 - (intOf i).toNat)
    case atStart => exact ⟨0, by omega, rfl, rfl, Below.refl _ _⟩
    case round =>
      obtain ⟨j, hj, rfl, rfl, hbel⟩ := hrel
      have hcl := cnt_le cs j
      have hsl := sumTo_le cs j
      have hcn : cnt cs j ≤ 30 := by rw [HL.out] at hcl; omega
      have hsn : sumTo cs j ≤ 330 := by
        rw [HL.out] at hsl
        have : j * n ≤ 11 * 30 := Nat.mul_le_mul hj hn
        omega
      clear hcl hsl
      by_cases hlt : j < 11
      · have g1' : wr.cell? ⟨g1, j, none⟩ = some (.int .i64 ((cnt (cs.take k) j : Int) + (cnt (cs.drop k) j : Int))) := by
          rw [hbel.cell (p := ⟨g1, j, none⟩) (lt_of_block Q1.out), cell_of_row w4 _ _ _ _ _ Q1.out]
          have := cntL_get cs j hlt
          rw [HS.out] at this
          simpa using this
        have g2' : wr.cell? ⟨g2, j, none⟩ = some (.int .i64 (cnt (cs.take k) j)) := by
          rw [hbel.cell (p := ⟨g2, j, none⟩) (lt_of_block Q2.out), cell_of_row w4 _ _ _ _ _ Q2.out]
          simpa using cntL_get (cs.take k) j hlt
        have g3' : wr.cell? ⟨g3, j, none⟩ = some (.int .i64 (cnt (cs.drop k) j)) := by
          rw [hbel.cell (p := ⟨g3, j, none⟩) (lt_of_block Q3.out), cell_of_row w4 _ _ _ _ _ Q3.out]
          simpa using cntL_get (cs.drop k) j hlt
        have hs := HS.out j
        have hss := sumTo_succ cs j
        have HSS := Lib.hid hss
        have HS1 := Lib.hid hs
        have hx : cnt (cs.take k) j ≤ 30 := by omega
        have hy : cnt (cs.drop k) j ≤ 30 := by omega
        clear hss hs
        generalize cnt (cs.take k) j = x at *
        generalize cnt (cs.drop k) j = y at *
        generalize sumTo cs j = z at *
        have hw : IntKind.i64.wrap ((x : Int) + (y : Int)) = (x : Int) + (y : Int) := IntWalk.i64_in _ (by omega)
        have hnn : ((x : Int) + (y : Int) < 0) = False := by simp; omega
        have hne : (((x : Int) + (y : Int)) != ((x : Int) + (y : Int))) = false := by simp
        have hlt0 : decide ((x : Int) + (y : Int) < 0) = false := by simp; omega
        have hb0 : 0 ≤ (x : Int) + (y : Int) := by omega
        clear hnn
        go_wp2_with fail
        go_quiet (fail)
        go_wp2
        go_roundw
        case rel => exact ⟨j + 1, by omega, by go_num, by rw [HSS.out, HS1.out]; go_num, below_drewN hbel _⟩
        case measure => simp [intOf]; omega
      · have hj11 : j = 11 := by omega
        subst hj11
        rw [show ((11 : Nat) : Int) = 11 from rfl]
        have hsk : sumTo cs 11 = known cs := sumTo_known cs
        have HSK := Lib.hid hsk
        clear hsk
        have b5 : Below w.heap.size w wr := b4.trans (hbel.mono (by omega))
        have hcr := hcs.below b5 (Nat.le_refl _)
        have z5 := b5.size
        clear hlt hbel hcn hsn
        obtain ⟨wo, rfl⟩ : ∃ wo : World, wo = wr := ⟨_, rfl⟩
        go_wp2_with fail
        obtain ⟨i0, hi, hz0, hz1, hz2⟩ := info_parts Try.info3
        go_loopw [13, 14, 15] (fun kn v i wx => ∃ t : Nat, t ≤ n ∧ i = .int .i64 t ∧ kn = .int .i64 (known (cs.take t)) ∧ wx.ownsRow wo.heap.size 3 1 v t ((upTo t).map (Value.int .i64)) ∧ Below wo.heap.size wo wx)
          (fun _ _ i _ => n - (intOf i).toNat)
        case atStart => exact ⟨0, by omega, rfl, rfl, World.ownsRow_nil _ _ _ _, Below.refl _ _⟩
        case round =>
          obtain ⟨t, ht, rfl, rfl, hown, hbx⟩ := hrel
          have zx := hbx.size
          by_cases hlt : t < n
          · obtain ⟨b, off, rfl, hc⟩ := hcr t (by rw [HL.out]; exact hlt)
            have hts : cs.take (t + 1) = cs.take t ++ [cs[t]'(by rw [HL.out]; exact hlt)] := List.take_succ_eq_append_getElem (by rw [HL.out]; exact hlt)
            have c0 := (hbx.cell (p := ⟨b, off + t * 9, none⟩) (World.block_lt_of_cell? wo _ (hc 0 (by omega)))).trans (hc 0 (by omega))
            simp only [CV.cell] at c0
            clear hc
            have hks := known_snoc (cs.take t) (cs[t]'(by rw [HL.out]; exact hlt))
            rw [← hts] at hks
            clear hts
            generalize cs[t]'(by rw [HL.out]; exact hlt) = c at c0 hks
            have HK := Lib.hid hks
            clear hks
            have hkl := known_le (cs.take t)
            have hkl2 : known (cs.take t) ≤ 30 := by simp at hkl; omega
            clear hkl
            generalize known (cs.take t) = z at *
            by_cases h1 : 1 ≤ c.op ∧ c.op ≤ 11
            · have HI := Lib.hid h1
              obtain ⟨h1, h2⟩ := h1
              go_wp2_with (at_builtin; refine wpList_append_new wr rfl _ _ 25 rfl wo.heap.size 3 i0 _ 1 8 Try.underlying25 hi hz0 hz1 hz2 rfl (by decide) hown rfl 1 [.int .i64 (t : Int)] rfl rfl (by simp [Value.oneCell']) (by unfold maxLen; omega) (by omega) (by omega) ?_; intro v' w1' hown' hgrow _)
              go_roundw
              case rel => exact ⟨t + 1, by omega, by go_num, by rw [HK.out, if_pos HI.out]; go_num, by rw [upTo_succ]; simpa using hown', hbx.grown hgrow zx (fun r hr => by have := (hown.lt r hr).1; omega)⟩
              case measure => simp [intOf]; omega
            · have HI := Lib.hid h1
              have h1' : c.op < 1 ∨ (1 ≤ c.op ∧ 11 < c.op) := by omega
              clear h1
              rcases h1' with h1' | ⟨h1', h1''⟩
              all_goals
                go_wp2_with (at_builtin; refine wpList_append_new wr rfl _ _ 25 rfl wo.heap.size 3 i0 _ 1 8 Try.underlying25 hi hz0 hz1 hz2 rfl (by decide) hown rfl 1 [.int .i64 (t : Int)] rfl rfl (by simp [Value.oneCell']) (by unfold maxLen; omega) (by omega) (by omega) ?_; intro v' w1' hown' hgrow _)
                go_roundw
                case rel => exact ⟨t + 1, by omega, by go_num, by rw [HK.out, if_neg HI.out]; go_num, by rw [upTo_succ]; simpa using hown', hbx.grown hgrow zx (fun r hr => by have := (hown.lt r hr).1; omega)⟩
                case measure => simp [intOf]; omega
          · have htn : t = n := by omega
            subst htn
            have hct : cs.take t = cs := List.take_of_length_le (by rw [HL.out]; omega)
            rw [hct, ← HSK.out]
            clear hct
            go_wp2_with (at_builtin; refine wpList_append_new wr rfl _ _ 25 rfl wo.heap.size 3 i0 _ 1 8 Try.underlying25 hi hz0 hz1 hz2 rfl (by decide) hown rfl 2 [.int .i64 (t : Int), .int .i64 (-1)] rfl rfl (by simp [Value.oneCell']) (by unfold maxLen; omega) (by omega) (by omega) ?_; intro v' w5 hown' hgrow _)
            have bx : Below wo.heap.size wo w5 := hbx.grown hgrow zx (fun r hr => (hown.lt r hr).1)
            have b6 : Below w.heap.size w w5 := b5.trans (bx.mono (by omega))
            have hxs : (upTo t ++ [(t : Int), -1]).length = t + 2 := by simp [upTo]
            obtain ⟨ga, gc, hv, hia⟩ := ownsRow_ints (xs := upTo t ++ [(t : Int), -1]) (by rw [hxs]; simpa using hown')
            rw [hxs] at hv
            have HXS := Lib.hid hxs
            have HIA := Lib.hid hia
            subst hv
            clear hown' hown hxs hia hgrow hbx bx hcr hcd Q1 Q2 Q3 HS
            have hcr := hcs.below b6 (Nat.le_refl _)
            refine (pick_at _ _ _ _ _ _ _ cs _ HL.out HXS.out (by omega) (by omega) hcr HIA.out).mono ?_
            rintro e w6 ⟨gp, cp, rfl, hcp, hb6⟩
            have hpk : pickL cs (upTo t ++ [(t : Int), -1]) = cs := pickL_all cs t HL.out
            rw [hpk] at hcp ⊢
            rw [HL.out]
            clear hpk
            have hcr2 := hcr.below hb6 (Nat.le_refl _)
            have HC1 := Lib.hid hcp
            have HC2 := Lib.hid hcr2
            clear hcp hcr2 hcr
            go_wp2_with fail
            refine (sameCalls_true _ _ _ _ _ _ cs HL.out (by omega) HC1.out HC2.out).mono ?_
            rintro e w7 ⟨rfl, hb7⟩
            go_wp2
            go_ret
            have z6 := hb6.size
            exact ⟨rfl, b6.trans ((hb6.trans (hb7.mono z6)).mono b6.size)⟩
end Go.Proofs.Ytnomklpnlohpiaa
