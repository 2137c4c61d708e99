/- The Go text of flyleaflaw03.BlockOf returns true and writes nothing that was there. -/
import Derived.Test.YtbcpnfkjncpdcaaRef
import Derived.Test.YtbcpnfkjncpdcaaOpenStr
namespace Go.Proofs.Ytbcpnfkjncpdcaa
open Go.RowKit

def cut100 (s : ByteArray) : ByteArray := s.extract 0 100
theorem cut100_size (s : ByteArray) : (cut100 s).size ≤ 100 := by
  simp [cut100, ByteArray.size_extract]
  omega

set_option maxRecDepth 100000 in
set_option maxHeartbeats 2000000 in
theorem of_walk (w : World) (a : Option Addr) (N cap : Nat) (_h1 : N ≤ cap) (_h2 : cap ≤ maxLen) (L : List ByteArray) (hl : L.length = N) (hL : StrsIn w a L) :
    Calls Try.prog 3 #[.slice a N cap] w fun e w' => e = .returned (.bool true) ∧ Below w.heap.size w w' := by
  obtain ⟨i0, hi, hz0, hz1, hz2⟩ := info_parts Try.info9
  obtain ⟨hstr, hszs⟩ := hL
  have HL := Lib.hid hl
  have HSZ := Lib.hid hszs
  clear hl hszs
  go_enter Try.func3, Try.ntmps3
  go_wp2_with fail
  refine (awake_any _).mono ?_
  rintro e w1 ⟨rfl, hb1⟩
  go_wp2_with fail
  go_loopw [4, 5] (fun v i wr => ∃ k : Nat, k ≤ N ∧ k ≤ 10 ∧ i = .int .i64 k ∧ wr.ownsRow w.heap.size 9 1 v k (((L.take k).map cut100).map Value.string) ∧ Below w.heap.size w wr)
    (fun _ i _ => N - (intOf i).toNat)
  case atStart => exact ⟨0, by omega, by omega, rfl, World.ownsRow_nil _ _ _ _, hb1⟩
  case round =>
    obtain ⟨k, hk, hk10, rfl, hown, hbel⟩ := hrel
    have zr := hbel.size
    by_cases hlt : k < N ∧ k < 10
    · obtain ⟨hlt, hlt10⟩ := hlt
      have hks : k < L.length := by rw [HL.out]; exact hlt
      obtain ⟨b1, o1, rfl, hc⟩ := hstr k hks
      have g1 := (hbel.cell (p := ⟨b1, o1 + k, none⟩) (World.block_lt_of_cell? w _ hc)).trans hc
      have hts : L.take (k + 1) = L.take k ++ [L[k]] := List.take_succ_eq_append_getElem hks
      have hsk := HSZ.out _ (List.getElem_mem hks)
      obtain ⟨str, hs⟩ : ∃ str, str = L[k] := ⟨_, rfl⟩
      rw [← hs] at g1 hts hsk
      have HTS := Lib.hid hts
      clear hts hs hc hstr
      go_wp2_with (first | (go_at_call 16; refine (short_any _ str 100 (by omega) hsk).mono ?_; rintro e w' ⟨rfl, rfl⟩) | (at_builtin; refine wpList_append_new wr rfl _ _ 22 rfl w.heap.size 9 i0 _ 1 16 Try.underlying22 hi hz0 hz1 hz2 rfl (by decide) hown rfl 1 [.string (cut100 str)] rfl rfl rfl (by simp [Value.oneCell']) (by unfold maxLen; omega) (by omega) zr ?_; intro v' w2 hown' hgr _))
      go_roundw
      case rel =>
        refine ⟨k + 1, by omega, by omega, by go_num, ?_, hbel.grown hgr zr (fun r hr => (hown.lt r hr).1)⟩
        rw [HTS.out]
        simpa using hown'
      case measure => simp [intOf]; omega
    · obtain ⟨n, hn⟩ : ∃ n, n = k := ⟨_, rfl⟩
      subst hn
      obtain ⟨ss, hss⟩ : ∃ ss, ss = (L.take n).map cut100 := ⟨_, rfl⟩
      have hsl : ss.length = n := by rw [hss, List.length_map, List.length_take, HL.out]; omega
      have hsz2 : ∀ s ∈ ss, s.size ≤ maxLen := by
        intro s h
        rw [hss] at h
        simp only [List.mem_map] at h
        obtain ⟨t, _, rfl⟩ := h
        have := cut100_size t
        unfold maxLen; omega
      rw [← hss] at hown
      obtain ⟨sa, sc, rfl, hsh⟩ := ownsRow_shape hown
      have hsa : StrsAt wr sa ss := by
        intro i hi
        cases hsa : sa with
        | none =>
          exfalso
          rcases hown.2 with ⟨_, h0⟩ | ⟨g, cap, cur, hv, _⟩
          · omega
          · rw [hsa] at hv; cases hv
        | some b =>
          obtain ⟨g, cur, rfl, _, hg, ht⟩ := hsh b hsa
          refine ⟨g, 0, rfl, ?_⟩
          rw [cell_of_row wr _ _ _ _ _ hg, Nat.zero_add]
          have : (cur.toList.take (n * 1))[i]? = some (.string ss[i]) := by rw [ht]; simp [hi]
          rw [List.getElem?_take, if_pos (by omega)] at this
          simpa using this
      have hnd : ¬ n < N ∨ (n < N ∧ ¬ n < 10) := by omega
      have HSA := Lib.hid hsa
      have HSL := Lib.hid hsl
      have HSZ2 := Lib.hid hsz2
      obtain ⟨wo, rfl⟩ : ∃ wo : World, wo = wr := ⟨_, rfl⟩
      clear hsa hsl hsz2 hsh hown hss hstr hlt hi hz0 hz1 hz2
      by_cases hn0 : n = 0
      · subst hn0
        have hnd2 : ¬ 0 < N := by omega
        clear hnd
        go_wp2_with fail
        refine (of_none _ sa sc).mono ?_
        rintro e w2 ⟨rfl, rfl⟩
        go_wp2_with fail
        refine (rof_none _ sa sc).mono ?_
        rintro e w2 ⟨rfl, rfl⟩
        go_wp2
        go_ret
        exact ⟨rfl, hbel⟩
      · have hn1 : 1 ≤ n := by omega
        rcases hnd with hnd | ⟨hnd, hnd2⟩
        all_goals
          go_wp2_with fail
          refine (of_ok _ sa n sc ss HSL.out hn1 (by omega) HSA.out).mono ?_
          rintro e w2 ⟨d, bb, rfl, hd, hbb, hD, hb2⟩
          have HD := Lib.hid hD
          have HSA2 := Lib.hid (HSA.out.below hb2 (Nat.le_refl _))
          have b2 : Below w.heap.size w w2 := hbel.trans (hb2.mono zr)
          have z2 := b2.size
          clear hD hb2
          go_wp2_with fail
          refine (rof_ok _ sa n sc ss HSL.out hn1 (by omega) HSZ2.out HSA2.out).mono ?_
          rintro e w3 ⟨r, rb, rc, rfl, hr, hrb, hR, hb3⟩
          have HR := Lib.hid hR
          have HD3 := Lib.hid (HD.out.below hb3 (Nat.le_refl _))
          have b3 : Below w.heap.size w w3 := b2.trans (hb3.mono z2)
          have z3 := b3.size
          have hrd : r ≠ d := by have := lt_of_block HD.out.head; omega
          have hrbd : rb ≠ d := by have := lt_of_block HD.out.head; omega
          clear hR hb3 HD
          go_wp2_with fail
          go_loopw [8] (fun i wx => ∃ (u : Nat) (E : DM), u ≤ n ∧ i = .int .i64 u ∧ E.secs = ss.map fill64 ∧ E.reads = u ∧ IsDisk wx d bb E ∧ IsRef wx r rb rc ⟨ss.map fill64, 0, 0, 0⟩ ∧ Below w.heap.size w wx)
            (fun i _ => n - (intOf i).toNat)
          case atStart => exact ⟨0, _, by omega, rfl, rfl, rfl, HD3.out, HR.out, b3⟩
          case round =>
            clear HD3 HR b3
            obtain ⟨u, E, hu, rfl, hEs, hEr, hE, hR, hbx⟩ := hrel
            have HE := Lib.hid hE
            have HR := Lib.hid hR
            have HEs := Lib.hid hEs
            have HEr := Lib.hid hEr
            have hel : E.secs.length = n := by rw [hEs, List.length_map, HSL.out]
            have HEL := Lib.hid hel
            have zx := hbx.size
            clear hE hR hEs hEr hel
            by_cases hun : u < n
            · have hus : u < ss.length := by rw [HSL.out]; exact hun
              obtain ⟨q, hq⟩ : ∃ q : ByteArray, q = ⟨(fill64 ss[u]).toArray⟩ := ⟨_, rfl⟩
              have hread : (⟨(E.secs.getD (Int.toNat (u : Int)) []).toArray⟩ : ByteArray) = q := by
                rw [HEs.out, Int.toNat_natCast, hq]
                simp [List.getD, hus]
              have hrat : ∀ W : World, IsRef W r rb rc ⟨ss.map fill64, 0, 0, 0⟩ → W.cell? ⟨rb, u, none⟩ = some (.string q) := by
                intro W h
                rw [h.at (by simp [hus]), hq]
                simp
              have HRD := Lib.hid hread
              have HRA := Lib.hid hrat
              clear hread hrat hq
              go_wp2_with fail
              refine (read_in _ d bb E u (by omega) (by rw [HEL.out]; omega) ⟨by rw [HEr.out]; omega, by rw [HEr.out]; omega⟩ HE.out).mono ?_
              rintro e w4 ⟨rfl, hE4, hm4⟩
              rw [HRD.out]
              have HE4 := Lib.hid hE4
              have hR4 := HR.out.mods hm4 (by simp; exact hrd) (by simp; exact hrbd)
              have HR4 := Lib.hid hR4
              have b4 : Below w.heap.size w w4 := below_after hbx hm4 zx (by simp; omega)
              have c0 := hR4.c0
              have cq := HRA.out w4 hR4
              have hln : (ss.map fill64).length = n := by rw [List.length_map, HSL.out]
              simp only [hln] at c0
              clear hE4 hm4 HE HR hR4 hln hbx
              go_wp2_with fail
              go_roundw
              case rel => exact ⟨u + 1, ⟨E.secs, E.sealed_, E.reads + 1, E.writes⟩, by omega, by go_num, HEs.out, by simp only [HEr.out]; omega, HE4.out, HR4.out, b4⟩
              case measure => simp [intOf]; omega
            · have hue : u = n := by omega
              subst hue
              have hc0 := HE.out.c0
              rw [HEL.out] at hc0
              go_wp2_with fail
              refine (sectors_any _ d u _ _ (by omega) hc0).mono ?_
              rintro e w4 ⟨rfl, rfl⟩
              go_wp2
              go_ret
              exact ⟨rfl, hbx⟩
end Go.Proofs.Ytbcpnfkjncpdcaa
