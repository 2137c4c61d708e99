/- What runs.Pick returns: the calls at those places that there are, in a slice of its own. -/
import Derived.Test.YtnomklpnlohpiaaBase
namespace Go.Proofs.Ytnomklpnlohpiaa
open Go.RowKit

def pickL (cs : List CV) (xs : List Int) : List CV := xs.filterMap fun i => if 0 ≤ i then cs[i.toNat]? else none
theorem pickL_snoc (cs : List CV) (xs : List Int) (x : Int) : pickL cs (xs ++ [x]) = pickL cs xs ++ (if 0 ≤ x then cs[x.toNat]? else none).toList := by
  simp only [pickL, List.filterMap_append, List.filterMap_cons, List.filterMap_nil]
  split <;> simp_all
theorem pickL_le (cs : List CV) (xs : List Int) : (pickL cs xs).length ≤ xs.length := List.length_filterMap_le _ _

set_option maxHeartbeats 1000000 in
theorem pick_any (w : World) (a b : Option Addr) (n m c1 c2 : Nat) (cs : List CV) (xs : List Int) (hl : cs.length = n) (hm : xs.length = m) (_hn : n ≤ 1000) (hm' : m ≤ 1000) (ha : CallsAt w a cs) (hb : IntsAt w b xs) :
    Calls Try.prog 10 #[.slice a n c1, .slice b m c2] w fun e w' => ∃ v, e = .returned v ∧ w'.ownsRow w.heap.size 30 9 v (pickL cs xs).length ((pickL cs xs).flatMap CV.cells) ∧ Below w.heap.size w w' := by
  obtain ⟨i0, hi, hz0, hz1, hz2⟩ := info_parts Try.info30
  have HL := Lib.hid hl
  have HM := Lib.hid hm
  clear hl hm
  go_enter Try.func10, Try.ntmps10
  go_wp2
  go_loopw [5, 10] (fun v i wr => ∃ k : Nat, k ≤ m ∧ i = .int .i64 k ∧ wr.ownsRow w.heap.size 30 9 v (pickL cs (xs.take k)).length ((pickL cs (xs.take k)).flatMap CV.cells) ∧ Below w.heap.size w wr)
    (fun _ i _ => m - (intOf i).toNat)
  case atStart => exact ⟨0, by omega, rfl, World.ownsRow_nil _ _ _ _, Below.refl _ _⟩
  case round =>
    obtain ⟨k, hk, rfl, hown, hbel⟩ := hrel
    by_cases hlt : k < m
    · have hkx : k < xs.length := by rw [HM.out]; exact hlt
      obtain ⟨b2, o2, rfl, h2⟩ := hb k hkx
      have g2 := (hbel.cell (p := ⟨b2, o2 + k, none⟩) (World.block_lt_of_cell? w _ h2)).trans h2
      have hts : xs.take (k + 1) = xs.take k ++ [xs[k]] := List.take_succ_eq_append_getElem hkx
      have hps : pickL cs (xs.take (k + 1)) = pickL cs (xs.take k) ++ (if 0 ≤ xs[k] then cs[xs[k].toNat]? else none).toList := by rw [hts, pickL_snoc]
      clear hts h2 hb
      generalize xs[k] = x at g2 hps
      have hpl := pickL_le cs (xs.take k)
      have hpk : (pickL cs (xs.take k)).length ≤ 1000 := by simp at hpl; omega
      clear hpl
      have hsz := hbel.size
      by_cases hx : 0 ≤ x ∧ x < n
      · obtain ⟨hx0, hxn⟩ := hx
        have hxl : x.toNat < cs.length := by rw [HL.out]; omega
        obtain ⟨b1, o1, rfl, h1⟩ := ha x.toNat hxl
        have l1 := World.block_lt_of_cell? w _ (h1 0 (by omega))
        have hps' : pickL cs (xs.take (k + 1)) = pickL cs (xs.take k) ++ [cs[x.toNat]] := by rw [hps, if_pos hx0, List.getElem?_eq_getElem hxl]; rfl
        clear hps
        generalize cs[x.toNat] = c at h1 hps'
        have HP := Lib.hid hps'
        clear hps'
        have k0 := (hbel.cell (p := ⟨b1, o1 + x.toNat * 9, none⟩) l1).trans (h1 0 (by omega))
        have k1 := (hbel.cell (p := ⟨b1, o1 + x.toNat * 9 + 1, none⟩) l1).trans (h1 1 (by omega))
        have k2 := (hbel.cell (p := ⟨b1, o1 + x.toNat * 9 + 2, none⟩) l1).trans (h1 2 (by omega))
        have k3 := (hbel.cell (p := ⟨b1, o1 + x.toNat * 9 + 3, none⟩) l1).trans (h1 3 (by omega))
        have k4 := (hbel.cell (p := ⟨b1, o1 + x.toNat * 9 + 4, none⟩) l1).trans (h1 4 (by omega))
        have k5 := (hbel.cell (p := ⟨b1, o1 + x.toNat * 9 + 5, none⟩) l1).trans (h1 5 (by omega))
        have k6 := (hbel.cell (p := ⟨b1, o1 + x.toNat * 9 + 6, none⟩) l1).trans (h1 6 (by omega))
        have k7 := (hbel.cell (p := ⟨b1, o1 + x.toNat * 9 + 7, none⟩) l1).trans (h1 7 (by omega))
        have k8 := (hbel.cell (p := ⟨b1, o1 + x.toNat * 9 + 8, none⟩) l1).trans (h1 8 (by omega))
        simp only [CV.cell] at k0 k1 k2 k3 k4 k5 k6 k7 k8
        clear h1 ha
        have hone := CV.oneCell c
        have HO := Lib.hid hone
        clear hone
        go_wp2_with (at_builtin; refine wpList_append_new wr rfl _ _ 22 rfl w.heap.size 30 i0 _ 9 112 Try.underlying22 hi hz0 hz1 hz2 rfl (by decide) hown rfl 1 c.cells rfl rfl HO.out (by unfold maxLen; omega) (by omega) hsz ?_; intro v' w1 hown' hgrow _)
        clear k0 k1 k2 k3 k4 k5 k6 k7 k8
        go_roundw
        case rel =>
          refine ⟨k + 1, by omega, by go_num, ?_, hbel.grown hgrow hsz (fun r hr => (hown.lt r hr).1)⟩
          rw [HP.out]
          simpa using hown'
        case measure => simp [intOf]; omega
      · have hps' : pickL cs (xs.take (k + 1)) = pickL cs (xs.take k) := by
          rw [hps]
          split
          · rw [List.getElem?_eq_none (by rw [HL.out]; omega)]; simp
          · simp
        clear hps
        have HP := Lib.hid hps'
        clear hps'
        have hx' : x < 0 ∨ (0 ≤ x ∧ (n : Int) ≤ x) := by omega
        rcases hx' with hx' | ⟨hx', hx''⟩
        all_goals
          go_wp2
          go_roundw
          case rel => exact ⟨k + 1, by omega, by go_num, by rw [HP.out]; exact hown, hbel⟩
          case measure => simp [intOf]; omega
    · have hkn : xs.take k = xs := List.take_of_length_le (by rw [HM.out]; omega)
      rw [hkn] at hown
      clear hkn
      go_wp2
      go_ret
      exact ⟨_, rfl, hown, hbel⟩

/-- The same, the slice opened. -/
theorem pick_at (w : World) (a b : Option Addr) (n m c1 c2 : Nat) (cs : List CV) (xs : List Int) (hl : cs.length = n) (hm : xs.length = m) (_hn : n ≤ 1000) (hm' : m ≤ 1000) (ha : CallsAt w a cs) (hb : IntsAt w b xs) :
    Calls Try.prog 10 #[.slice a n c1, .slice b m c2] w fun e w' => ∃ g cap, e = .returned (.slice g (pickL cs xs).length cap) ∧ CallsAt w' g (pickL cs xs) ∧ Below w.heap.size w w' :=
  (pick_any w a b n m c1 c2 cs xs hl hm _hn hm' ha hb).mono fun _ _ ⟨_, he, ho, hb⟩ => by
    obtain ⟨g, cap, rfl, hc⟩ := ownsRow_calls ho
    exact ⟨g, cap, he, hc, hb⟩
end Go.Proofs.Ytnomklpnlohpiaa
