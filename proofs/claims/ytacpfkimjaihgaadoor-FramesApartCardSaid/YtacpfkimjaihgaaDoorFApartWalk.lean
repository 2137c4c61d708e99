/- The Go text of flyleaflaw06.FramesApart returns true and writes nothing that was there. -/
import Derived.Test.YtacpfkimjaihgaaDoorFApartLib
import Derived.Test.YtacpfkimjaihgaaDoorFWordsWalk
import Derived.Test.YtacpfkimjaihgaaDoorBits
import Derived.Deep.CutBlock
namespace Go.Proofs.YtacpfkimjaihgaaDoor
open Go.RowKit
set_option linter.unusedVariables false
theorem len3 {α : Type} {l : List α} (h : l.length = 3) : ∃ a b c, l = [a, b, c] := by
  match l, h with
  | [a, b, c], _ => exact ⟨a, b, c, rfl⟩
set_option maxRecDepth 100000 in
set_option maxHeartbeats 8000000 in
theorem fapart_walk (w : World) (hw : Wd w) (a : Option Addr) (N cap : Nat) (h1 : N ≤ cap) (h2 : cap ≤ maxLen) (rows : List (List Int)) (hl : rows.length = N) (hrows : ArrsAt .i64 3 w a rows) (bh : Int) (hbh : (Lit.int IntKind.i64 bh).wf = true) (fm : Int) (hfm : (Lit.int IntKind.i64 fm).wf = true) :
    Calls Tryd.prog 3 #[.slice a N cap, .int .i64 bh, .int .i64 fm] w fun e w' => e = .returned (.bool true) ∧ Below w.heap.size w w' := by
  have HW := Lib.hid hw
  have HL := Lib.hid hl
  have haw := awake06 w hw
  obtain ⟨bq, hbq, hbq0, hbq1⟩ : ∃ q, bits BinOp.and IntKind.i64 bh 31 = q ∧ 0 ≤ q ∧ q ≤ 31 := ⟨_, and31 bh, by omega, by omega⟩
  obtain ⟨g, hg, hg7⟩ : ∃ k : Nat, bits BinOp.and IntKind.i64 fm 7 = (k : Int) ∧ k < 8 := ⟨(fm % 8).toNat, by rw [and7]; omega, by omega⟩
  clear hl hw
  go_enter Tryd.func3, Tryd.ntmps3
  go_wp2_with fail
  refine haw.mono ?_
  rintro e w1 ⟨rfl, hb1⟩
  clear haw
  go_wp2_with fail
  refine (new_at hb1 9 (by decide) (by decide)).mono ?_
  rintro e w2 ⟨p, bb, hb, rfl, hA⟩
  have HA := Lib.hid (AtA.make (show At w w2 p bb hb (newFP 9) from hA) 28 (uv (List.replicate 144 0)))
  clear hA hb1
  go_wp2_with fail
  rw [show (uv (List.replicate 144 0)).toArray = Tryd.zeroCells28 from by kernel_rfl] at HA
  generalize w2.alloc (Obj.cells Tryd.zeroCells28 28) = w3 at HA ⊢
  generalize w2.heap.size = A at HA ⊢
  go_loopw [11] (fun i wx => ∃ (t : Nat) (S : List (List UInt8)), t ≤ 8 ∧ i = .int .i64 t ∧ Hid (S.length = 9 ∧ ∀ s ∈ S, s = zeroSec) ∧ Hid (AtA w wx p bb hb ⟨S, heldT t 9⟩ A 28 (uv (List.replicate 144 0)))) (fun i _ => 8 - (intOf i).toNat)
  case atStart => exact ⟨0, List.replicate 9 zeroSec, by omega, rfl, Lib.hid ⟨by simp, fun s hs => List.eq_of_mem_replicate hs⟩, by rw [newFP_heldT] at HA; exact HA⟩
  case round =>
    clear HA
    obtain ⟨t, S, ht, rfl, HS, HA⟩ := hrel
    by_cases hlt : t < 8
    · have HT := Lib.hid (take_heldT (S := S) (t := t) (N := 9) (by omega))
      go_wp2_with fail
      refine (HA.out.take).mono ?_
      rintro e w4 ⟨rfl, hP⟩
      rw [HT.out] at hP
      rw [HT.out]
      replace HA := Lib.hid hP
      clear hP
      go_wp2_with fail
      go_roundw
      case rel => exact ⟨t + 1, _, by omega, by go_num, Lib.hid ⟨by simpa using HS.out.1, fun s hs => by
        rcases List.mem_or_eq_of_mem_set hs with hs | hs
        · exact HS.out.2 s hs
        · exact hs⟩, HA⟩
      case measure => simp [intOf]; omega
    · have ht8 : t = 8 := by omega
      subst ht8
      have HSS : Hid (Says ⟨S, heldT 8 9⟩ (List.replicate 144 0) 8) := Lib.hid (says_start HS.out.1 HS.out.2)
      generalize FP.mk S (heldT 8 9) = F at HA HSS
      generalize List.replicate 144 (0 : Int) = W at HA HSS
      clear HS
      go_wp2_with fail
      obtain ⟨wo, rfl⟩ : ∃ wo : World, wo = wr := ⟨_, rfl⟩
      go_loopw [10, 14] (fun nv i wx => ∃ (t m : Nat) (n : Int) (F : FP) (W : List Int), t ≤ 30 ∧ i = .int .i64 t ∧ nv = .int .i64 n ∧ ((m = 8 ∧ n = 8) ∨ (m = 9 ∧ n = 9)) ∧ Hid (Says F W m) ∧ Hid (AtA w wx p bb hb F A 28 (uv W))) (fun _ i _ => 30 - (intOf i).toNat)
      case atStart => exact ⟨0, 8, 8, F, W, by omega, rfl, rfl, by decide, HSS, HA⟩
      case round =>
        clear HA HSS
        obtain ⟨t, m, n, F, W, ht, rfl, rfl, hn, HS, HA⟩ := hrel
        by_cases hlt : t < N ∧ t < 30
        · obtain ⟨hlt, hlt30⟩ := hlt
          obtain ⟨hr3, b1, o1, rfl, hc⟩ := hrows t (by rw [HL.out]; exact hlt)
          obtain ⟨x0, x1, x2, hrow⟩ : ∃ x0 x1 x2, rows[t]'(by rw [HL.out]; exact hlt) = [x0, x1, x2] := len3 hr3
          have hcc : ∀ j (hj : j < [x0, x1, x2].length), w.cell? ⟨b1, o1 + t * 3 + j, none⟩ = some (.int .i64 [x0, x1, x2][j]) := by rw [← hrow]; exact fun j hj => (hc j hj).1
          clear hc hrow hrows hr3
          have c0 := hcc 0 (show 0 < 3 by decide)
          have c1 := hcc 1 (show 1 < 3 by decide)
          have c2 := hcc 2 (show 2 < 3 by decide)
          simp only [List.getElem_cons_zero, List.getElem_cons_succ] at c0 c1 c2
          have l1 := World.block_lt_of_cell? w _ c0
          simp only at l1
          have HC := Lib.hid (And.intro l1 (And.intro c0 (And.intro c1 c2)))
          clear hcc c0 c1 c2 l1
          have ht30 : t + 1 ≤ 30 := by omega
          obtain ⟨bt, hbt⟩ : ∃ b, ((t : Int) == bq) = b := ⟨_, rfl⟩
          rcases hn with ⟨rfl, rfl⟩ | ⟨rfl, rfl⟩
          · cases bt
            · as_aux_lemma =>
              have hkx := tmod_bd x0 8 (by omega)
              obtain ⟨rx, hrx, hrx0, hrx1⟩ : ∃ r, x0.tmod 8 = r ∧ -8 < r ∧ r < 8 := ⟨_, rfl, hkx.1, hkx.2⟩
              obtain ⟨f, hf, hfn⟩ : ∃ f : Nat, (rx + 8) % 8 = (f : Int) ∧ f < 8 := ⟨((rx + 8) % 8).toNat, by omega, by omega⟩
              obtain ⟨k, hk, hk16⟩ : ∃ k : Nat, bits BinOp.and IntKind.i64 x1 15 = (k : Int) ∧ k < 16 := ⟨(x1 % 16).toNat, by rw [and15]; omega, by omega⟩
              obtain ⟨x, hx, hx0, hx1⟩ : ∃ x, bits BinOp.and IntKind.u64 (IntKind.u64.wrap x2) 4294967295 = x ∧ 0 ≤ x ∧ x < 4294967296 := ⟨_, and_mask_u64 (IntKind.u64.wrap x2) 32 (by omega) (by rw [IntKind.wrap_u64]; omega) (by rw [IntKind.wrap_u64]; omega), by omega, by omega⟩
              have HFF := Lib.hid (And.intro hf (And.intro hfn hk16))
              have hst := HS.out.store hfn hk16 hx0 hx1
              rw [show ((4 * k : Nat) : Int) = 4 * (k : Int) by omega] at hst
              have HST := Lib.hid hst
              have HX := Lib.hid (And.intro hx0 (show x < 18446744073709551616 by omega))
              clear hst hkx hx0 hx1
              have g0 := (HA.out.at_.below.cell (p := ⟨b1, o1 + t * 3 + 0, none⟩) HC.out.1).trans HC.out.2.1
              have g1 := (HA.out.at_.below.cell (p := ⟨b1, o1 + t * 3 + 1, none⟩) HC.out.1).trans HC.out.2.2.1
              have g2 := (HA.out.at_.below.cell (p := ⟨b1, o1 + t * 3 + 2, none⟩) HC.out.1).trans HC.out.2.2.2
              rw [Nat.add_zero] at g0
              go_wp2_with fail
              refine (HA.out.store HW.out f (4 * (k : Int)) 3 x HX.out.1 HX.out.2).mono ?_
              rintro e w6 ⟨rfl, hP⟩
              rw [HST.out.1]
              replace HA := Lib.hid hP
              clear hP g0 g1 g2
              have hfk : f * 16 + k < W.length := by have := HS.out.len; have := HFF.out; omega
              have ck := HA.out.cell (uv_get hfk)
              generalize W[f * 16 + k] = cv at ck
              have fk := HA.out.free_ (f * 16 + k)
              go_wp2_with fail
              have hP := HA.out.set (f * 16 + k) (.int .u64 x)
              rw [uv_set] at hP
              go_roundw
              case rel =>
                (repeat apply Exists.intro)
                exact ⟨⟨t + 1, 8, 8, _, _, by omega, by go_num, rfl, by decide, Lib.hid HST.out.2, Lib.hid hP⟩, rfl⟩
              case measure => simp [intOf]; omega
            · as_aux_lemma =>
              obtain ⟨F', hcp, hS'⟩ := HS.out.copy hg7
              have HCP := Lib.hid hcp
              have HS' : Hid (Says F' (splice W (8 * 16) ((W.drop (g * 16)).take 16)) 9) := Lib.hid hS'
              clear hcp hS'
              have hl144 := HS.out.len
              have HL1 := Lib.hid (show ((W.drop (g * 16)).take 16).length = 16 by rw [List.length_take, List.length_drop, hl144]; omega)
              have HL2 := Lib.hid (show 8 * 16 + (uv ((W.drop (g * 16)).take 16)).length ≤ (uv W).length by rw [uv, uv, List.length_map, List.length_map, List.length_take, List.length_drop, hl144]; omega)
              have HIN : Hid (∀ j v, (uv ((W.drop (g * 16)).take 16))[j]? = some v → (uv W)[g * 16 + j]? = some v) := Lib.hid (by
                intro j v hj
                have hj16 : j < 16 := by have := (List.getElem?_eq_some_iff.1 hj).1; rw [uv, List.length_map, HL1.out] at this; exact this
                rw [← hj]
                simp only [uv, List.getElem?_map, List.getElem?_take, List.getElem?_drop]
                rw [if_pos hj16])
              have HIF := Lib.hid (show (Tryd.prog.info? 27).map (·.size) = some (uv ((W.drop (g * 16)).take 16)).length by rw [uv, List.length_map, HL1.out]; exact Tryd.info27)
              clear hl144
              have HS0 := HS
              clear HS
              have HS := HS'
              generalize hWW : splice W (8 * 16) (List.take 16 (List.drop (g * 16) W)) = W2 at HS HS'
              have HWW := Lib.hid hWW
              clear hWW
              have hkx := tmod_bd x0 9 (by omega)
              obtain ⟨rx, hrx, hrx0, hrx1⟩ : ∃ r, x0.tmod 9 = r ∧ -9 < r ∧ r < 9 := ⟨_, rfl, hkx.1, hkx.2⟩
              obtain ⟨f, hf, hfn⟩ : ∃ f : Nat, (rx + 9) % 9 = (f : Int) ∧ f < 9 := ⟨((rx + 9) % 9).toNat, by omega, by omega⟩
              obtain ⟨k, hk, hk16⟩ : ∃ k : Nat, bits BinOp.and IntKind.i64 x1 15 = (k : Int) ∧ k < 16 := ⟨(x1 % 16).toNat, by rw [and15]; omega, by omega⟩
              obtain ⟨x, hx, hx0, hx1⟩ : ∃ x, bits BinOp.and IntKind.u64 (IntKind.u64.wrap x2) 4294967295 = x ∧ 0 ≤ x ∧ x < 4294967296 := ⟨_, and_mask_u64 (IntKind.u64.wrap x2) 32 (by omega) (by rw [IntKind.wrap_u64]; omega) (by rw [IntKind.wrap_u64]; omega), by omega, by omega⟩
              have HFF := Lib.hid (And.intro hf (And.intro hfn hk16))
              have hst := HS.out.store hfn hk16 hx0 hx1
              rw [show ((4 * k : Nat) : Int) = 4 * (k : Int) by omega] at hst
              have HST := Lib.hid hst
              have HX := Lib.hid (And.intro hx0 (show x < 18446744073709551616 by omega))
              clear hst hkx hx0 hx1
              go_wp2_with fail
              refine (HA.out.copy g).mono ?_
              rintro e w5 ⟨rfl, hP⟩
              rw [HCP.out] at hP
              rw [HCP.out]
              replace HA := Lib.hid hP
              clear hP
              have hg8 : (g : Int) < 9 := by omega
              go_wp2_with (first | (refine wpList_load_mid (op := ⟨some 78, _, _, _, _, _⟩) rfl 27 _ rfl A (g * 16) rfl (uv ((W.drop (g * 16)).take 16)) _ (fun j v hj => HA.out.cell (HIN.out j v hj)) Tryd.underlying27 rfl HIF.out ?_) | (refine wpList_store_part (o := ⟨none, _, _, _, _, _⟩) _ rfl 27 _ _ rfl A (8 * 16) (uv ((W.drop (g * 16)).take 16)) rfl rfl (uv W) 28 HA.out.arr HL2.out HIF.out (uv_one _) ?_; intro w6 hrow hmod hsz; have hB := AtA.splice _ _ _ HA.out hrow hmod; rw [uv_splice] at hB; have HB := Lib.hid hB; clear hrow hmod hsz hB; have g0 := (HB.out.at_.below.cell (p := ⟨b1, o1 + t * 3 + 0, none⟩) HC.out.1).trans HC.out.2.1; have g1 := (HB.out.at_.below.cell (p := ⟨b1, o1 + t * 3 + 1, none⟩) HC.out.1).trans HC.out.2.2.1; have g2 := (HB.out.at_.below.cell (p := ⟨b1, o1 + t * 3 + 2, none⟩) HC.out.1).trans HC.out.2.2.2; rw [Nat.add_zero] at g0))
              clear HA HS0
              have HA := HB
              rw [HWW.out] at HA
              clear HB HS' HL1 HL2 HIN HIF HCP HWW
              refine (HA.out.store HW.out f (4 * (k : Int)) 3 x HX.out.1 HX.out.2).mono ?_
              rintro e w6 ⟨rfl, hP⟩
              rw [HST.out.1]
              replace HA := Lib.hid hP
              clear hP g0 g1 g2
              have hfk : f * 16 + k < W2.length := by have := HS.out.len; have := HFF.out; omega
              have ck := HA.out.cell (uv_get hfk)
              generalize W2[f * 16 + k] = cv at ck
              have fk := HA.out.free_ (f * 16 + k)
              go_wp2_with fail
              have hP := HA.out.set (f * 16 + k) (.int .u64 x)
              rw [uv_set] at hP
              go_roundw
              case rel =>
                (repeat apply Exists.intro)
                exact ⟨⟨t + 1, 9, 9, _, _, by omega, by go_num, rfl, by decide, Lib.hid HST.out.2, Lib.hid hP⟩, rfl⟩
              case measure => simp [intOf]; omega
          · cases bt
            · as_aux_lemma =>
              have hkx := tmod_bd x0 9 (by omega)
              obtain ⟨rx, hrx, hrx0, hrx1⟩ : ∃ r, x0.tmod 9 = r ∧ -9 < r ∧ r < 9 := ⟨_, rfl, hkx.1, hkx.2⟩
              obtain ⟨f, hf, hfn⟩ : ∃ f : Nat, (rx + 9) % 9 = (f : Int) ∧ f < 9 := ⟨((rx + 9) % 9).toNat, by omega, by omega⟩
              obtain ⟨k, hk, hk16⟩ : ∃ k : Nat, bits BinOp.and IntKind.i64 x1 15 = (k : Int) ∧ k < 16 := ⟨(x1 % 16).toNat, by rw [and15]; omega, by omega⟩
              obtain ⟨x, hx, hx0, hx1⟩ : ∃ x, bits BinOp.and IntKind.u64 (IntKind.u64.wrap x2) 4294967295 = x ∧ 0 ≤ x ∧ x < 4294967296 := ⟨_, and_mask_u64 (IntKind.u64.wrap x2) 32 (by omega) (by rw [IntKind.wrap_u64]; omega) (by rw [IntKind.wrap_u64]; omega), by omega, by omega⟩
              have HFF := Lib.hid (And.intro hf (And.intro hfn hk16))
              have hst := HS.out.store hfn hk16 hx0 hx1
              rw [show ((4 * k : Nat) : Int) = 4 * (k : Int) by omega] at hst
              have HST := Lib.hid hst
              have HX := Lib.hid (And.intro hx0 (show x < 18446744073709551616 by omega))
              clear hst hkx hx0 hx1
              have g0 := (HA.out.at_.below.cell (p := ⟨b1, o1 + t * 3 + 0, none⟩) HC.out.1).trans HC.out.2.1
              have g1 := (HA.out.at_.below.cell (p := ⟨b1, o1 + t * 3 + 1, none⟩) HC.out.1).trans HC.out.2.2.1
              have g2 := (HA.out.at_.below.cell (p := ⟨b1, o1 + t * 3 + 2, none⟩) HC.out.1).trans HC.out.2.2.2
              rw [Nat.add_zero] at g0
              go_wp2_with fail
              refine (HA.out.store HW.out f (4 * (k : Int)) 3 x HX.out.1 HX.out.2).mono ?_
              rintro e w6 ⟨rfl, hP⟩
              rw [HST.out.1]
              replace HA := Lib.hid hP
              clear hP g0 g1 g2
              have hfk : f * 16 + k < W.length := by have := HS.out.len; have := HFF.out; omega
              have ck := HA.out.cell (uv_get hfk)
              generalize W[f * 16 + k] = cv at ck
              have fk := HA.out.free_ (f * 16 + k)
              go_wp2_with fail
              have hP := HA.out.set (f * 16 + k) (.int .u64 x)
              rw [uv_set] at hP
              go_roundw
              case rel =>
                (repeat apply Exists.intro)
                exact ⟨⟨t + 1, 9, 9, _, _, by omega, by go_num, rfl, by decide, Lib.hid HST.out.2, Lib.hid hP⟩, rfl⟩
              case measure => simp [intOf]; omega
            · as_aux_lemma =>
              have hkx := tmod_bd x0 9 (by omega)
              obtain ⟨rx, hrx, hrx0, hrx1⟩ : ∃ r, x0.tmod 9 = r ∧ -9 < r ∧ r < 9 := ⟨_, rfl, hkx.1, hkx.2⟩
              obtain ⟨f, hf, hfn⟩ : ∃ f : Nat, (rx + 9) % 9 = (f : Int) ∧ f < 9 := ⟨((rx + 9) % 9).toNat, by omega, by omega⟩
              obtain ⟨k, hk, hk16⟩ : ∃ k : Nat, bits BinOp.and IntKind.i64 x1 15 = (k : Int) ∧ k < 16 := ⟨(x1 % 16).toNat, by rw [and15]; omega, by omega⟩
              obtain ⟨x, hx, hx0, hx1⟩ : ∃ x, bits BinOp.and IntKind.u64 (IntKind.u64.wrap x2) 4294967295 = x ∧ 0 ≤ x ∧ x < 4294967296 := ⟨_, and_mask_u64 (IntKind.u64.wrap x2) 32 (by omega) (by rw [IntKind.wrap_u64]; omega) (by rw [IntKind.wrap_u64]; omega), by omega, by omega⟩
              have HFF := Lib.hid (And.intro hf (And.intro hfn hk16))
              have hst := HS.out.store hfn hk16 hx0 hx1
              rw [show ((4 * k : Nat) : Int) = 4 * (k : Int) by omega] at hst
              have HST := Lib.hid hst
              have HX := Lib.hid (And.intro hx0 (show x < 18446744073709551616 by omega))
              clear hst hkx hx0 hx1
              have g0 := (HA.out.at_.below.cell (p := ⟨b1, o1 + t * 3 + 0, none⟩) HC.out.1).trans HC.out.2.1
              have g1 := (HA.out.at_.below.cell (p := ⟨b1, o1 + t * 3 + 1, none⟩) HC.out.1).trans HC.out.2.2.1
              have g2 := (HA.out.at_.below.cell (p := ⟨b1, o1 + t * 3 + 2, none⟩) HC.out.1).trans HC.out.2.2.2
              rw [Nat.add_zero] at g0
              go_wp2_with fail
              refine (HA.out.store HW.out f (4 * (k : Int)) 3 x HX.out.1 HX.out.2).mono ?_
              rintro e w6 ⟨rfl, hP⟩
              rw [HST.out.1]
              replace HA := Lib.hid hP
              clear hP g0 g1 g2
              have hfk : f * 16 + k < W.length := by have := HS.out.len; have := HFF.out; omega
              have ck := HA.out.cell (uv_get hfk)
              generalize W[f * 16 + k] = cv at ck
              have fk := HA.out.free_ (f * 16 + k)
              go_wp2_with fail
              have hP := HA.out.set (f * 16 + k) (.int .u64 x)
              rw [uv_set] at hP
              go_roundw
              case rel =>
                (repeat apply Exists.intro)
                exact ⟨⟨t + 1, 9, 9, _, _, by omega, by go_num, rfl, by decide, Lib.hid HST.out.2, Lib.hid hP⟩, rfl⟩
              case measure => simp [intOf]; omega
        · go_wp2_with fail
          all_goals
            clear hrows
            obtain ⟨wp, rfl⟩ : ∃ wp : World, wp = wr := ⟨_, rfl⟩
            obtain rfl : n = (m : Int) := by omega
            obtain ⟨n, rfl⟩ : ∃ n, n = m := ⟨_, rfl⟩
            go_loopw [20] (fun i wx => ∃ f : Nat, f ≤ n ∧ i = .int .i64 f ∧ Hid (AtA w wx p bb hb F A 28 (uv W))) (fun i _ => n - (intOf i).toNat)
            case atStart => exact ⟨0, by omega, rfl, HA⟩
            case round =>
              clear HA
              obtain ⟨f, hf, rfl, HA⟩ := hrel
              by_cases hfn : f < n
              · go_wp2_with fail
                obtain ⟨wq, rfl⟩ : ∃ wq : World, wq = wr := ⟨_, rfl⟩
                go_loopw [21] (fun i wx => ∃ k : Nat, k ≤ 16 ∧ i = .int .i64 k ∧ Hid (AtA w wx p bb hb F A 28 (uv W))) (fun i _ => 16 - (intOf i).toNat)
                case atStart => exact ⟨0, by omega, rfl, HA⟩
                case round =>
                  clear HA
                  obtain ⟨k, hk, rfl, HA⟩ := hrel
                  by_cases hk16 : k < 16
                  · have hl144 := HS.out.len
                    have hb16 : f * 16 + k < W.length := by omega
                    have hld := HS.out.load hfn hk16 hb16
                    rw [show ((4 * k : Nat) : Int) = 4 * (k : Int) by omega] at hld
                    have ck := uv_get hb16
                    generalize W[f * 16 + k] = cv at hld ck
                    have HLD := Lib.hid hld
                    have HCK := Lib.hid ck
                    have hf9 : f < 9 := by omega
                    clear hld ck hl144 hb16
                    go_wp2_with fail
                    refine (HA.out.load HW.out f (4 * (k : Int)) 3).mono ?_
                    rintro e w6 ⟨rfl, hP⟩
                    rw [HLD.out.1, HLD.out.2]
                    replace HA := Lib.hid hP
                    clear hP
                    have ck := HA.out.cell HCK.out
                    go_wp2_with fail
                    go_roundw
                    case rel => exact ⟨k + 1, by omega, by go_num, HA⟩
                    case measure => simp [intOf]; omega
                  · have hk' : k = 16 := by omega
                    subst hk'
                    go_wp2_with fail
                    go_roundw
                    case rel => exact ⟨f + 1, by omega, by go_num, HA⟩
                    case measure => simp [intOf]; omega
              · have hfn' : f = n := by omega
                subst hfn'
                go_wp2_with fail
                go_ret
                exact ⟨rfl, HA.out.at_.below⟩
end Go.Proofs.YtacpfkimjaihgaaDoor
