/- ProcOnce: the walk. Nothing here is conditional. -/
import Derived.Test.YtjhggfpnafhonaaOnce
import Derived.Test.YtjhggfpnafhonaaPlaysOpen
import Derived.Test.YtjhggfpnafhonaaBits
import Derived.Deep.RegionWith
import Derived.Deep.CutBlock
namespace Go.Proofs.Ytjhggfpnafhonaa
open Go.RowKit Go.Maps
set_option linter.unusedVariables false
theorem Try.info3 : (Try.prog.info? 3).map (fun i => (i.zero, i.size, i.bytes)) = some (some (.int .i64 0), 1, 8) := by kernel_rfl
theorem made_ints (n : Nat) : madeCells #[.int .i64 0] n = (iv (List.replicate n 0)).toArray := by
  apply Array.toList_inj.1
  simp [madeCells, iv, List.map_replicate]
  apply List.ext_getElem
  · simp
  · intro i h1 h2
    simp [Nat.mod_one]

theorem all_prs (w : World) (t b : Nat) (T : List Pr) (hT : Tab w t b T) (hi : Inv T) (hne : T ≠ []) :
    Calls Try.prog 13 #[.pointer (some ⟨t, 0, none⟩)] w fun e w' => ∃ g cap, e = .returned (.slice (some ⟨g, 0, none⟩) T.length cap) ∧ w.heap.size ≤ g ∧ g < w'.heap.size ∧ PrsAt w' g T ∧ Below w.heap.size w w' := by
  refine (all_ne w t b T hT (by have := hi.len; omega) hi.wf hne).mono ?_
  rintro e w' ⟨g, cap, cur, rfl, h1, h2, h3, h4, h5, h6⟩
  refine ⟨g, cap, rfl, h1, lt_of_block h2, ?_, h6⟩
  intro i hi
  rw [cell_of_row w' _ _ _ _ _ h2]
  have : (cur.toList.take (T.length * 4))[i]? = some (cellsOf T)[i] := by rw [h5]; simp [hi]
  rw [List.getElem?_take, if_pos (by rw [cellsOf_length] at hi; exact hi)] at this
  simpa using this

set_option maxRecDepth 100000 in
set_option maxHeartbeats 8000000 in
theorem procOnce_any (w : World) (a : Option Addr) (N cap : Nat) (h1 : N ≤ cap) (h2 : cap ≤ maxLen) (xs : List OpV) (hl : xs.length = N) (hxs : OpsAt w a xs) :
    Calls Try.prog 5 #[.slice a N cap] w fun e w' => e = .returned (.bool true) ∧ Below w.heap.size w w' := by
  obtain ⟨i0, hi, hz0, hz1, hz2⟩ := info_parts Try.info3
  have hmk := fun W => run_make (P := Try.prog) W 42 3 i0 _ Try.underlying42 hi hz0 .i64 .i64 40 40 (by omega) (by omega) (by rw [hz2]; omega) (by omega)
  rw [hz1] at hmk
  have HL := Lib.hid hl
  clear hz0 hz1 hz2 hi hl
  go_enter Try.func5, Try.ntmps5
  go_wp2_with (first
    | (go_at_call 8; refine (awake_any _).mono ?_; rintro e w1 ⟨rfl, hb1⟩)
    | (go_at_call 9; refine (new_any _).mono ?_; rintro e w2 ⟨t, b, rfl, ht, hb, H1, hb2⟩))
  have M1 : Below w.heap.size w w2 := hb1.trans (hb2.mono hb1.size)
  have s1 := hb1.size
  have HS : Hid (Stt w (w2.alloc (.cells (madeCells #[.int .i64 0] 40) 3)) t b w2.heap.size T0 (List.replicate 40 0) (List.replicate 40 0)) := by
    have ht2 := H1.lt
    have hb2' := H1.2.1.lt
    have s2 := hb2.size
    refine Lib.hid ⟨H1.below ((Below.refl _ _).alloc (Nat.le_refl _) _) ht2 hb2', inv0, told0, ?_, by simp, by omega, by omega, by omega, by omega, by omega, M1.alloc (by omega) _⟩
    rw [heap_alloc_new, made_ints]
  clear hmk H1 hb1 hb2 ht hb
  generalize (w2.alloc (.cells (madeCells #[.int .i64 0] 40) 3)) = w3 at HS ⊢
  generalize w2.heap.size = g at HS ⊢
  go_loopw [6] (fun i wr => ∃ (m : Nat) (T : List Pr) (E : List Int), m ≤ 60 ∧ i = .int .i64 m ∧ Hid (Stt w wr t b g T E E)) (fun i _ => (60 - numV i).toNat)
  case atStart => exact ⟨0, T0, _, by omega, rfl, HS⟩
  case round =>
    clear HS
    obtain ⟨m, T, E, hm, rfl, HS⟩ := hrel
    by_cases hlt : m < N ∧ m < 60
    · obtain ⟨hlt, hlt60⟩ := hlt
      obtain ⟨b1, o1, rfl, hc1, hc2, hc3, hc4⟩ := hxs m (by rw [HL.out]; exact hlt)
      have g1 := (HS.out.below.cell (p := ⟨b1, o1 + m * 4, none⟩) (World.block_lt_of_cell? w _ hc1)).trans hc1
      have g2 := (HS.out.below.cell (p := ⟨b1, o1 + m * 4 + 1, none⟩) (World.block_lt_of_cell? w _ hc2)).trans hc2
      have g3 := (HS.out.below.cell (p := ⟨b1, o1 + m * 4 + 2, none⟩) (World.block_lt_of_cell? w _ hc3)).trans hc3
      have g4 := (HS.out.below.cell (p := ⟨b1, o1 + m * 4 + 3, none⟩) (World.block_lt_of_cell? w _ hc4)).trans hc4
      clear hc1 hc2 hc3 hc4 hxs
      generalize xs[m]'(by rw [HL.out]; exact hlt) = x at g1 g2 g3 g4
      obtain ⟨x1, x2, x3, x4⟩ := x
      simp only [] at g1 g2 g3 g4
      obtain ⟨q, hq⟩ : ∃ q, bits BinOp.and IntKind.i64 x1 3 = q := ⟨_, rfl⟩
      obtain ⟨k, hk, hk1, hk8⟩ : ∃ k : Nat, bits BinOp.and IntKind.i64 x2 7 = (k : Int) - 1 ∧ 1 ≤ k ∧ k ≤ 8 := ⟨(x2 % 8).toNat + 1, by rw [and7]; omega, by omega, by omega⟩
      go_upto_block 2 with (fail)
      rw [show (1 + ((k : Int) - 1)) = k from by omega]
      replace HS := Lib.hid (HS.out.alloc (.cells #[.int .i64 x1, .int .i64 x2, .int .i64 x3, .bool x4] 47))
      clear g1 g2 g3 g4 hk hq
      generalize wr.alloc (.cells #[.int .i64 x1, .int .i64 x2, .int .i64 x3, .bool x4] 47) = w4 at HS ⊢
      generalize wr.heap.size = pp
      have hlen : E.length = 40 := HS.out.len
      go_cut [] (fun wx => ∃ (T' : List Pr) (E' : List Int), Hid (Stt w wx t b g T' E' E'))
      case first =>
        by_cases hc2 : q = 2
        · subst hc2
          go_wp2_with fail
          refine (HS.out.exit k hk1 hk8 m (by omega) (by omega)).mono ?_
          rintro e w5 ⟨er, T', E', rfl, hn, hy, hS⟩
          have HS5 := Lib.hid hS
          clear hS HS
          by_cases he : er = 0
          · subst he
            have hE := hy rfl
            have HE := Lib.hid hE
            obtain ⟨v0, hv0⟩ : ∃ v, E[k]? = some v := ⟨_, List.getElem?_eq_getElem (by omega)⟩
            have ck := HS5.out.cell k v0 hv0
            have fk := HS5.out.frozen k
            have HV := Lib.hid hv0
            clear hn hy hE hv0
            go_wp2_with fail
            go_meet
            have := HS5.out.store k (1 + m)
            rw [← HE.out] at this
            exact ⟨T', E', Lib.hid this⟩
          · have hE := hn he
            subst hE
            clear hn hy
            go_wp2_with fail
            go_meet
            exact ⟨T', _, HS5⟩
        · by_cases hc3 : q = 3
          · subst hc3
            go_wp2_with fail
            refine (HS.out.wait k hk1 hk8).mono ?_
            rintro e w5 ⟨pa, pc, er, T', E', rfl, hn, hy, hS⟩
            have HS5 := Lib.hid hS
            clear hS HS
            by_cases he : er = 0
            · subst he
              obtain ⟨n, rfl, n1, n2, c1, c2, hv, hE⟩ := hy rfl
              have HE := Lib.hid hE
              have ck := HS5.out.cell n _ hv
              have fk := HS5.out.frozen n
              have HV := Lib.hid hv
              clear hn hy hE hv
              go_wp2_with fail
              go_meet
              have := HS5.out.store n 0
              rw [← HE.out] at this
              exact ⟨T', E', Lib.hid this⟩
            · have hE := hn he
              subst hE
              clear hn hy
              go_wp2_with fail
              go_meet
              exact ⟨T', _, HS5⟩
          · go_wp2_with fail
            refine (HS.out.fork k (wf_small _ (by omega) (by omega))).mono ?_
            rintro e w5 ⟨pa, er, T', rfl, hy, hS⟩
            have HS5 := Lib.hid hS
            clear hS HS
            by_cases he : er = 0
            · subst he
              obtain ⟨n1, n2, hv⟩ := hy rfl
              obtain ⟨n, rfl⟩ : ∃ n : Nat, pa = n := ⟨pa.toNat, by omega⟩
              rw [Int.toNat_natCast] at hv
              have ck := HS5.out.cell n _ hv
              have HV := Lib.hid hv
              clear hy hv
              go_wp2_with fail
              go_meet
              exact ⟨T', _, HS5⟩
            · clear hy
              go_wp2_with fail
              go_meet
              exact ⟨T', _, HS5⟩
      case rest =>
        obtain ⟨T', E', HS5⟩ := hcut
        clear HS hlen
        go_wp2_with fail
        refine (all_prs _ t b T' HS5.out.tab HS5.out.inv (by obtain ⟨p, hp, _⟩ := HS5.out.told.one; exact find_length hp)).mono ?_
        rintro e w6 ⟨r, rc, rfl, hr1, hr2, hpr, hb6⟩
        have HP := Lib.hid hpr
        clear hpr
        replace HS6 := Lib.hid (HS5.out.quiet hb6)
        clear HS5
        go_wp2_with fail
        go_loopw [15] (fun i wx => ∃ (j : Nat), j ≤ T'.length ∧ i = .int .i64 j ∧ Below w6.heap.size w6 wx) (fun i _ => (T'.length - numV i).toNat)
        case atStart => exact ⟨0, by omega, rfl, Below.refl _ _⟩
        case round =>
          obtain ⟨j, hj, rfl, hbx⟩ := hrel
          by_cases hjl : j < T'.length
          · obtain ⟨q1, _, q3, _⟩ := HP.out.four j hjl _ rfl
            have r1 := (hbx.cell (p := ⟨r, j * 4, none⟩) hr2).trans q1
            have r3 := (hbx.cell (p := ⟨r, j * 4 + 2, none⟩) hr2).trans q3
            have hin := HS6.out.inv.pid _ (List.getElem_mem hjl)
            have hfp := find_mem HS6.out.inv.up (List.getElem_mem hjl)
            have hup := List.pairwise_iff_getElem.1 HS6.out.inv.up
            have hprev : ∀ j', j = j' + 1 → ∃ pv, wr.cell? ⟨r, j' * 4, none⟩ = some (.int .i64 pv) ∧ pv < T'[j].pid := by
              rintro j' rfl
              obtain ⟨a1, _, _, _⟩ := HP.out.four j' (by omega) _ rfl
              exact ⟨_, (hbx.cell (p := ⟨r, j' * 4, none⟩) hr2).trans a1, hup j' (j' + 1) (by omega) hjl (by omega)⟩
            obtain ⟨p, hp⟩ : ∃ p, T'[j] = p := ⟨_, rfl⟩
            rw [hp] at r1 r3 hin hfp hprev
            obtain ⟨n, hn⟩ : ∃ n : Nat, p.pid = n := ⟨p.pid.toNat, by omega⟩
            rw [hn] at r1 hin hfp hprev
            have hE40 : E'.length = 40 := HS6.out.len
            have htg := (told_get HS6.out.told n (by omega) p hfp).1
            have gv := (hbx.cell (p := ⟨g, n, none⟩) (lt_of_block HS6.out.row)).trans (HS6.out.cell n _ (List.getElem?_eq_getElem (by omega)))
            obtain ⟨v, hv⟩ : ∃ v, E'[n]'(by omega) = v := ⟨_, rfl⟩
            rw [hv] at gv htg
            obtain ⟨ps, hps⟩ : ∃ ps, p.state = ps := ⟨_, rfl⟩
            rw [hps] at r3 htg
            have hn32 : n < 40 := by omega
            have hT32 := HS6.out.inv.len
            have hbb : (ps == 2) = (!(v == 0)) := by
              by_cases e : ps = 2
              · have := htg.1 e
                simp [e, this]
              · have : v = 0 := Classical.byContradiction (fun h => e (htg.2 h))
                simp [e, this]
            clear q1 q3 hup hfp hp hps hv hn hin htg hE40
            cases j with
            | zero =>
              by_cases hv0 : v = 0
              · subst hv0
                have hps2 : ps ≠ 2 := by rintro rfl; simp at hbb
                clear hbb hprev
                go_wp2_with fail
                go_quiet (fail)
                go_wp2_with fail
                go_roundw
                case rel => exact ⟨0 + 1, by omega, by go_num, by first | exact hbx.drew | exact below_drewN hbx _ | exact hbx⟩
                case measure => simp [numV]; omega
              · have hps2 : ps = 2 := by
                  have : (v == 0) = false := by simp [hv0]
                  rw [this] at hbb
                  simpa using hbb
                subst hps2
                have hvb : (v != 0) = true := by simp [hv0]
                clear hbb hprev
                go_wp2_with fail
                go_quiet (fail)
                go_wp2_with fail
                go_roundw
                case rel => exact ⟨0 + 1, by omega, by go_num, by first | exact hbx.drew | exact below_drewN hbx _ | exact hbx⟩
                case measure => simp [numV]; omega
            | succ j' =>
              obtain ⟨pv, r0, hpn⟩ := hprev j' rfl
              clear hprev
              have hge : ((n : Int) ≤ pv) = False := by simp; omega
              by_cases hv0 : v = 0
              · subst hv0
                have hps2 : ps ≠ 2 := by rintro rfl; simp at hbb
                clear hbb
                go_wp2_with fail
                go_quiet (fail)
                go_wp2_with fail
                go_roundw
                case rel => exact ⟨j' + 1 + 1, by omega, by go_num, by first | exact hbx.drew | exact below_drewN hbx _ | exact hbx⟩
                case measure => simp [numV]; omega
              · have hps2 : ps = 2 := by
                  have : (v == 0) = false := by simp [hv0]
                  rw [this] at hbb
                  simpa using hbb
                subst hps2
                have hvb : (v != 0) = true := by simp [hv0]
                clear hbb
                go_wp2_with fail
                go_quiet (fail)
                go_wp2_with fail
                go_roundw
                case rel => exact ⟨j' + 1 + 1, by omega, by go_num, by first | exact hbx.drew | exact below_drewN hbx _ | exact hbx⟩
                case measure => simp [numV]; omega
          · obtain rfl : j = T'.length := by omega
            go_wp2_with fail
            go_roundw
            case rel => exact ⟨m + 1, T', E', by omega, by go_num, Lib.hid (HS6.out.quiet hbx)⟩
            case measure => simp [numV]; omega
    · go_wp2_with fail
      all_goals
        go_ret
        exact ⟨rfl, HS.out.below⟩
end Go.Proofs.Ytjhggfpnafhonaa
