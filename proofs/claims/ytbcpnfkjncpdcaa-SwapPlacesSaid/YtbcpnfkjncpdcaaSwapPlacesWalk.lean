/- The Go text of flyleaflaw05.SwapPlaces returns true and writes nothing that was there. -/
import Derived.Test.YtbcpnfkjncpdcaaSwapLib
namespace Go.Proofs.Ytbcpnfkjncpdcaa
open Go.RowKit

def heldT (t N : Nat) : List Int := List.replicate t 1 ++ List.replicate (N - t) 0
theorem heldT_length {t N : Nat} (h : t ≤ N) : (heldT t N).length = N := by simp [heldT]; omega
theorem heldT_at {t N : Nat} (h : t < N) : (heldT t N)[t]'(by rw [heldT_length (by omega)]; exact h) = 0 := by
  simp [heldT, List.getElem_append_right]
theorem heldT_lt {t N j : Nat} (h : t ≤ N) (hj : j < t) : (heldT t N)[j]'(by rw [heldT_length h]; omega) = 1 := by
  simp [heldT, List.getElem_append_left, hj]
theorem heldT_set {t N : Nat} (h : t < N) : (heldT t N).set t 1 = heldT (t + 1) N := by
  apply List.ext_getElem
  · simp [heldT]; omega
  · intro i h1 h2
    rw [List.getElem_set]
    simp only [heldT, List.getElem_append, List.length_replicate, List.getElem_replicate]
    by_cases e : t = i
    · rw [if_pos e, dif_pos (by omega)]
    · rw [if_neg e]
      by_cases e2 : i < t
      · rw [dif_pos e2, dif_pos (by omega)]
      · rw [dif_neg e2, dif_neg (by omega)]
/-- What lies at sector k behind t puts from sector F on. -/
def wantB (F t k : Nat) : ByteArray := if F ≤ k ∧ k < F + t then pageB (100 + k - F) else fillB ⟨#[]⟩ 64
def Laid5 (D : DM) (F t : Nat) : Prop := D.secs.length = 16 ∧ ∀ k (h : k < D.secs.length), (⟨(D.secs[k]).toArray⟩ : ByteArray) = wantB F t k
theorem laid_zero (F : Nat) : Laid5 (newDM 16) F 0 := by
  refine ⟨by simp [newDM], fun k h => ?_⟩
  rw [wantB, if_neg (by omega)]
  have : (newDM 16).secs[k] = zeroSec := List.getElem_replicate _
  rw [this, fillB_64]
  rfl
theorem laid_put {D : DM} {F t : Nat} (h : Laid5 D F t) : Laid5 (D.put ((F : Int) + (t : Int)) (pageB (100 + (t : Int)))) F (t + 1) := by
  refine ⟨by simpa [DM.put] using h.1, fun k hk => ?_⟩
  have hk' : k < D.secs.length := by simpa [DM.put] using hk
  have hn : ((F : Int) + (t : Int)).toNat = F + t := by omega
  simp only [DM.put, hn]
  rw [List.getElem_set]
  by_cases he : F + t = k
  · subst he
    rw [if_pos rfl, wantB, if_pos (by omega), show (100 + ((F + t : Nat) : Int) - (F : Int)) = 100 + (t : Int) by omega]
  · rw [if_neg he, h.2 k hk']
    unfold wantB
    by_cases hc : F ≤ k ∧ k < F + t
    · rw [if_pos hc, if_pos (by omega)]
    · rw [if_neg hc, if_neg (by omega)]

set_option maxRecDepth 100000 in
set_option maxHeartbeats 1000000 in
theorem places_walk (w : World) (fi : Int) (_hf : (Lit.int IntKind.i64 fi).wf = true) (n : Int) (_hn : (Lit.int IntKind.i64 n).wf = true) : Calls Try.prog 11 #[.int .i64 fi, .int .i64 n] w fun e w' => e = .returned (.bool true) ∧ Below w.heap.size w w' := by
  obtain ⟨F, hF, hF1⟩ : ∃ k : Nat, bits BinOp.and IntKind.i64 fi 7 = (k : Int) ∧ k ≤ 7 := ⟨(fi % 8).toNat, by rw [and7]; omega, by omega⟩
  obtain ⟨N, hN, hN1⟩ : ∃ k : Nat, bits BinOp.and IntKind.i64 n 7 = (k : Int) ∧ k ≤ 7 := ⟨(n % 8).toNat, by rw [and7]; omega, by omega⟩
  go_enter Try.func11, Try.ntmps11
  go_wp2_with fail
  refine (awake5 _).mono ?_
  rintro e w1 ⟨rfl, hb1⟩
  have z1 := hb1.size
  go_wp2_with fail
  refine (new_ok _ 16 (by omega) (by omega)).mono ?_
  rintro e w2 ⟨d, bb, rfl, hd, hbb, hD, hb2⟩
  have HD := Lib.hid hD
  have b2 : Below w.heap.size w w2 := hb1.trans (hb2.mono z1)
  have z2 := b2.size
  clear hD hb2
  go_wp2_with fail
  refine (area_new w2 d bb _ F N (by omega) (by omega) (by simp [newDM]; omega) HD.out).mono ?_
  rintro e w3 ⟨a, hb, rfl, ha, hhb, hA3, hb3⟩
  have HA3 := Lib.hid hA3
  have b3 : Below w.heap.size w w3 := b2.trans (hb3.mono z2)
  have z3 := b3.size
  clear hA3 hb3 HD
  go_wp2_with fail
  go_loopw [11, 12, 13] (fun i _ _ wx => ∃ (t : Nat) (D : DM), t ≤ N ∧ i = .int .i64 t ∧ Hid (Laid5 D F t) ∧ D.sealed_ = 0 ∧ D.reads = 0 ∧ 0 ≤ D.writes ∧ D.writes ≤ t ∧ IsArea wx a hb d bb ⟨D, F, heldT t N, t⟩ ∧ Below w.heap.size w wx) (fun i _ _ _ => N - (intOf i).toNat)
  case atStart => exact ⟨0, newDM 16, by omega, rfl, Lib.hid (laid_zero F), rfl, rfl, by simp [newDM], by simp [newDM], by simpa [heldT] using HA3.out, b3⟩
  case round =>
    clear HA3 b3 b2
    obtain ⟨t, D, ht, rfl, HL, hDs, hDr, hw0, hw1, hA, hbel⟩ := hrel
    have HA := Lib.hid hA
    have HDs := Lib.hid hDs
    have HDr := Lib.hid hDr
    have zr := hbel.size
    clear hA hDs hDr
    by_cases hlt : t < N
    · go_wp2_with fail
      refine (page_any wr (100 + t)).mono ?_
      rintro e w4 ⟨rfl, hb4⟩
      have HA4 := Lib.hid (HA.out.below hb4 (Nat.le_refl _))
      have b4 := hbel.trans (hb4.mono zr)
      clear hb4 HA
      have hl2 := laid_put HL.out
      have hp := pageB_size (100 + t)
      generalize pageB (100 + t) = p at *
      go_wp2_with fail
      refine (put_good w4 a hb d bb _ p t hp (by rw [heldT_length ht]; exact hlt) (heldT_at hlt) (fun j h => by rw [heldT_lt ht h]; omega) ⟨by simp only []; omega, by simp only []; rw [HL.out.1]; omega⟩ (by simp only [HDs.out]; omega) ⟨hw0, by simp only []; omega⟩ (by simp only []; omega) HA4.out).mono ?_
      rintro e w5 ⟨rfl, hA5, hm5⟩
      have hA5' : IsArea w5 a hb d bb ⟨D.put ((F : Int) + t) p, F, heldT (t + 1) N, ((t + 1 : Nat) : Int)⟩ := by rw [← heldT_set hlt]; exact hA5
      have HA5 := Lib.hid hA5'
      have b5 : Below w.heap.size w w5 := below_after b4 hm5 b4.size (by simp; omega)
      have HL2 := Lib.hid hl2
      clear hA5 hA5' hm5 HA4 hl2 hp
      go_wp2_with fail
      go_roundw
      case rel => exact ⟨t + 1, D.put ((F : Int) + t) p, by omega, by go_num, HL2, HDs.out, HDr.out, by simp only [DM.put]; omega, by simp only [DM.put]; omega, HA5.out, b5⟩
      case measure => simp [intOf]; omega
    · have htn : t = N := by omega
      subst htn
      go_wp2_with fail
      refine (page_any wr 1).mono ?_
      rintro e w4 ⟨rfl, hb4⟩
      have HA4 := Lib.hid (HA.out.below hb4 (Nat.le_refl _))
      have b4 := hbel.trans (hb4.mono zr)
      have z4 := b4.size
      clear hb4 HA
      have hp := pageB_size 1
      generalize pageB 1 = p at *
      have HP := Lib.hid hp
      clear hp
      go_wp2_with fail
      refine (put_full w4 a (some ⟨hb, 0, none⟩) t t p HP.out (by omega) (by have := HA4.out.c2; simp only [heldT_length ht] at this; exact this) (fun k hk => ⟨hb, 1, rfl, by omega, by have := HA4.out.at (k := k) (by rw [heldT_length ht]; exact hk); simp only [] at this; rw [heldT_lt ht hk] at this; exact this⟩)).mono ?_
      rintro e w5 ⟨rfl, rfl⟩
      go_wp2_with fail
      obtain ⟨u, hu⟩ : ∃ u : Int, u = t := ⟨_, rfl⟩
      obtain ⟨hl, hhl⟩ : ∃ l, l = heldT t t := ⟨_, rfl⟩
      have HLL := Lib.hid (show hl.length = t by rw [hhl]; exact heldT_length ht)
      have HU := Lib.hid hu
      rw [← hhl] at HA4
      rw [← hu] at HA4
      have hW := HL.out.2
      have h16 := HL.out.1
      have HW := Lib.hid hW
      have H16 := Lib.hid h16
      have hz0 := HDr.out
      clear hhl hu hW h16
      obtain ⟨wo, rfl⟩ : ∃ wo : World, wo = w4 := ⟨_, rfl⟩
      go_loopw [16, 17, 18, 19] (fun i _ _ _ wx => ∃ (j : Nat) (E : DM), j ≤ 16 ∧ i = .int .i64 j ∧ Hid (E.secs = D.secs) ∧ 0 ≤ E.reads ∧ E.reads ≤ j ∧ IsArea wx a hb d bb ⟨E, F, hl, u⟩ ∧ Below w.heap.size w wx) (fun i _ _ _ _ => 16 - (intOf i).toNat)
      case atStart => exact ⟨0, D, by omega, rfl, Lib.hid rfl, by omega, by omega, HA4.out, b4⟩
      case round =>
        clear HA4 b4 hz0 HDr HDs
        obtain ⟨j, E, hj, rfl, HE, hr0, hr1, hA, hbel⟩ := hrel
        have HA := Lib.hid hA
        have zr := hbel.size
        clear hA
        by_cases hlt : j < 16
        · have hjl : j < E.secs.length := by rw [HE.out, H16.out]; exact hlt
          have hstr : (⟨(E.secs.getD j []).toArray⟩ : ByteArray) = wantB F t j := by
            rw [← HW.out j (by rw [H16.out]; exact hlt)]
            simp [List.getD, HE.out, H16.out, hlt]
          have HSTR := Lib.hid hstr
          clear hstr
          go_wp2_with fail
          refine (read_in wr d bb E j (by omega) (by omega) ⟨hr0, by omega⟩ HA.out.disk).mono ?_
          rintro e w6 ⟨he, hD6, hm6⟩
          rw [Int.toNat_natCast, HSTR.out] at he
          subst he
          have HA6 := Lib.hid (HA.out.withDisk (hm6.mono (by simp)) hD6)
          have b6 : Below w.heap.size w w6 := below_after hbel hm6 zr (by simp; omega)
          have z6 := b6.size
          clear hD6 hm6 HA
          go_wp2_with fail
          refine (fill_any w6 ⟨#[]⟩ 64 (by omega) (by omega) (by simp [ByteArray.size, maxLen])).mono ?_
          rintro e w7 ⟨rfl, hb7⟩
          have HA7 := Lib.hid (HA6.out.below hb7 (Nat.le_refl _))
          have b7 := b6.trans (hb7.mono z6)
          have z7 := b7.size
          clear hb7 HA6
          rw [show Int.toNat 64 = 64 from rfl]
          have HX : Hid (E.secs = D.secs) := HE
          by_cases hc : F ≤ j ∧ j < F + t
          · have hw : wantB F t j = pageB (100 + j - F) := by rw [wantB, if_pos hc]
            rw [hw]
            clear hw
            obtain ⟨hc1, hc2⟩ := hc
            generalize fillB ⟨#[]⟩ 64 = zz
            go_wp2_with fail
            refine (page_any w7 (100 + j - F)).mono ?_
            rintro e w8 ⟨rfl, hb8⟩
            have HA8 := Lib.hid (HA7.out.below hb8 (Nat.le_refl _))
            have b8 := b7.trans (hb8.mono z7)
            clear hb8 HA7
            generalize pageB (100 + j - F) = pz
            go_wp2_with fail
            go_roundw
            case rel => exact ⟨j + 1, ⟨E.secs, E.sealed_, E.reads + 1, E.writes⟩, by omega, by go_num, Lib.hid HX.out, by simp only []; omega, by simp only []; omega, HA8.out, b8⟩
            case measure => simp [intOf]; omega
          · have hw : wantB F t j = fillB ⟨#[]⟩ 64 := by rw [wantB, if_neg hc]
            rw [hw]
            clear hw
            generalize fillB ⟨#[]⟩ 64 = zz
            have hc' : (j : Int) < F ∨ ((F : Int) + t ≤ j) := by omega
            have HC := Lib.hid hc'
            clear hc hc'
            rcases HC.out with hc | hc
            · go_wp2_with fail
              go_roundw
              case rel => exact ⟨j + 1, ⟨E.secs, E.sealed_, E.reads + 1, E.writes⟩, by omega, by go_num, Lib.hid HX.out, by simp only []; omega, by simp only []; omega, HA7.out, b7⟩
              case measure => simp [intOf]; omega
            · go_wp2_with fail
              go_roundw
              case rel => exact ⟨j + 1, ⟨E.secs, E.sealed_, E.reads + 1, E.writes⟩, by omega, by go_num, Lib.hid HX.out, by simp only []; omega, by simp only []; omega, HA7.out, b7⟩
              case measure => simp [intOf]; omega
        · have hj16 : j = 16 := by omega
          subst hj16
          rw [show ((16 : Nat) : Int) = 16 from rfl]
          go_wp2_with fail
          refine (used_any wr a hb d bb _ HA.out).mono ?_
          rintro e w7 ⟨rfl, rfl⟩
          rw [show (SA.mk E F hl u).used = t from HU.out]
          go_wp2_with fail
          refine (slots_any wr a hb d bb _ HA.out).mono ?_
          rintro e w7 ⟨rfl, rfl⟩
          rw [show (SA.mk E F hl u).held.length = t from HLL.out]
          go_wp2_with fail
          go_ret
          exact ⟨rfl, hbel⟩
end Go.Proofs.Ytbcpnfkjncpdcaa
