/- flyleafref06: the document's Store. No conditions. -/
import Derived.Test.YtacpfkimjaihgaaDoorRPool3
namespace Go.Proofs.YtacpfkimjaihgaaDoor
open Go.RowKit
set_option linter.unusedVariables false

theorem set_text (l x : List UInt8) (a n : Nat) (hl : l.length = 64) (hx : x.length = n) (h : a + n ≤ 64) : (⟨l.toArray⟩ : ByteArray).extract 0 a ++ ⟨x.toArray⟩ ++ (⟨l.toArray⟩ : ByteArray).extract (a + n) 64 = ⟨(splice l a x).toArray⟩ := by
  rw [bytes_extract, bytes_extract, app_bytesO, app_bytesO, splice, hx, List.append_assoc]
  simp only [List.drop_zero, Nat.sub_zero]
  rw [List.take_of_length_le (l := l.drop (a + n)) (by rw [List.length_drop]; omega)]
section
variable {w w' : World} {r h2 sb : Nat} {F : FP}
set_option maxRecDepth 100000 in
set_option maxHeartbeats 1600000 in
theorem d_store (h : DocP w r h2 sb F) (f a kind x : Int) (hx0 : 0 ≤ x) (hx1 : x < 18446744073709551616) : Calls Tryd.prog 40 #[.pointer (some ⟨r, 0, none⟩), .int .i64 f, .int .i64 a, .int .i64 kind, .int .u64 x] w fun e w' => e = .returned (.int .i64 (F.loadE f a kind)) ∧ DocP w' r h2 sb (F.store f a kind x) ∧ Mods [r, h2, sb] w w' := by
  have HD := Lib.hid (d_load h f a kind)
  by_cases he : F.loadE f a kind = 0
  · obtain ⟨k, at_, n, rfl, rfl, hwd, hn0, hn8, hat, hk, hz⟩ := loadE_ok he
    have HST := Lib.hid (store_at (F := F) (x := x) hk hz hwd hn0 hat)
    obtain ⟨S, p, b⟩ := h.ex
    obtain ⟨hS, e1, e2, e3⟩ := b.text hk hz
    have hst := p.strAt hS
    generalize S[k] = sv at e1 e2 e3 hst
    have hl64 := sec_len b hk
    have hfit : at_ + (leL x n).length ≤ (F.sec k).length := by rw [leL_length, hl64]; exact hat
    have HB := Lib.hid (b.setS (j := k) (x := splice (F.sec k) at_ (leL x n)) (by rw [length_splice _ _ _ hfit]; exact hl64))
    have HT := Lib.hid (set_text (F.sec k) (leL x n) at_ n hl64 (leL_length x n) hat)
    rw [← e1] at HT
    have HHK := Lib.hid hk
    have HSK := Lib.hid hS
    have hSl : k < F.held.length := hk
    have HX := Lib.hid (And.intro hx0 hx1)
    have HP := Lib.hid p
    have HE3 := Lib.hid e3
    have HWD := Lib.hid hwd
    have c1 := p.c1
    have fs := frozen_of_row w sb k _ _ p.str
    have hsm := p.small
    rw [he] at HD ⊢
    generalize F.load k at_ kind = lv at HD
    clear h p b e1 e2 e3 hl64 hfit hx0 hx1 hwd he hz hk
    go_enter Tryd.func40, Tryd.ntmps40
    go_wp2_with fail
    refine HD.out.mono ?_
    rintro e w1 ⟨rfl, rfl⟩
    go_wp2_with fail
    go_region_with (first | (go_at_call 24; go_must (refine (rwidth_any _ kind).mono ?_); rintro e w5 ⟨rfl, rfl⟩; rw [HWD.out]) | (go_at_call 78; go_must (refine (rset_any _ sv at_ n x HE3.out hat hn0 hn8 HX.out.1 HX.out.2).mono ?_); rintro e w5 ⟨rfl, hb5⟩; rw [show leS x n = ⟨(leL x n).toArray⟩ from rfl, HT.out]; have hb5 : Below w.heap.size w w5 := ⟨hb5.os, hb5.tape, hb5.output, hb5.size, hb5.block⟩; have HP5 := Lib.hid (HP.out.below hb5 (Nat.le_refl _)); have HM5 : Hid (Mods [r, h2, sb] w w5) := Lib.hid (Mods.of_below hb5); have c15 := HP5.out.c1; have s15 := HP5.out.strAt HSK.out; have f15 := frozen_of_row w5 sb k _ _ HP5.out.str; clear hb5))
    all_goals
      go_wp2_with fail
      go_ret
      rw [HST.out]
      exact ⟨rfl, ⟨_, HP5.out.storeStr (fun _ _ => rfl), HB.out⟩, HM5.out.setCell (.inl (by simp)) _⟩
  · rw [FP.store, if_neg he]
    have HH := Lib.hid h
    obtain ⟨q, hq⟩ : ∃ q, q = F.loadE f a kind := ⟨_, rfl⟩
    rw [← hq] at he HD ⊢
    have hz' : (q != 0) = true := by simp [he]
    generalize F.load f a kind = lv at HD
    clear h he hq
    go_enter Tryd.func40, Tryd.ntmps40
    go_wp2_with fail
    refine HD.out.mono ?_
    rintro e w1 ⟨rfl, rfl⟩
    go_wp2_with fail
    go_ret
    exact ⟨rfl, HH.out, Mods.refl _ _⟩
end
end Go.Proofs.YtacpfkimjaihgaaDoor
