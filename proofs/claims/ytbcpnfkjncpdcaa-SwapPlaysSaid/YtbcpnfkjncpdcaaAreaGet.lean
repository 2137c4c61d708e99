/- Package swap: Get of a slot that is held. -/
import Derived.Test.YtbcpnfkjncpdcaaAreaWith
import Derived.Deep.AppendLies
import Derived.Deep.CutBlock
namespace Go.Proofs.Ytbcpnfkjncpdcaa
open Go.RowKit

theorem read_er (w : World) (d bb : Nat) (D : DM) (at_ : Int) (hr : 0 ≤ D.reads ∧ D.reads ≤ 1000000) (h : IsDisk w d bb D) :
    Calls Try.prog 19 #[.pointer (some ⟨d, 0, none⟩), .int .i64 at_] w fun e w' => ∃ s er D2, Hid (D.rd at_ = (s, er, D2)) ∧ e = .returned (.tuple #[.string s, .int .i64 er]) ∧ IsDisk w' d bb D2 ∧ Mods [d] w w' :=
  (read_any w d bb D at_ hr h).mono fun _ _ ⟨he, h1, h2⟩ => ⟨_, _, _, Lib.hid rfl, he, h1, h2⟩

set_option maxHeartbeats 4000000 in
theorem get_ok (w : World) (a hb d bb : Nat) (A : SA) (k : Nat) (hk : k < A.held.length) (hz : A.held[k] ≠ 0) (hf : 0 ≤ A.first ∧ A.first + k ≤ 100000) (hr : 0 ≤ A.D.reads ∧ A.D.reads ≤ 1000000) (h : IsArea w a hb d bb A) :
    Calls Try.prog 38 #[.pointer (some ⟨a, 0, none⟩), .int .i64 k] w fun e w' => ∃ s er D2, Hid (A.D.rd (A.first + k) = (s, er, D2)) ∧ e = .returned (.tuple #[.string s, .int .i64 er]) ∧
      IsArea w' a hb d bb { A with D := D2 } ∧ Mods [a, hb, d, bb] w w' := by
  have c0 := h.c0
  have c1 := h.c1
  have c2 := h.c2
  have ct := h.at hk
  have hn := h.small
  obtain ⟨ha, hhb, hd, hbb⟩ := h.lt
  have ha1 : a < w.heap.size + 1 := by omega
  have ha2 : a < w.heap.size + 2 := by omega
  have ha3 : a < w.heap.size + 1 + 1 := by omega
  have hb1 : hb < w.heap.size + 1 := by omega
  have hb2 : hb < w.heap.size + 2 := by omega
  have hb3 : hb < w.heap.size + 1 + 1 := by omega
  have hne : (A.held[k] == 0) = false := by simp [hz]
  have HA := Lib.hid h
  have HR := Lib.hid hr
  clear h hz hr
  obtain ⟨v, hv⟩ : ∃ v, v = A.held[k] := ⟨_, rfl⟩
  rw [← hv] at ct hne
  clear hv
  obtain ⟨z, hz⟩ : ∃ z, z = A.first + (k : Int) := ⟨_, rfl⟩
  have hwr : IntKind.i64.wrap (A.first + (k : Int)) = z := by rw [IntKind.wrap_i64, hz]; omega
  rw [← hz]
  clear hz
  go_enter Try.func38, Try.ntmps38
  go_wp2_with (first | go_in)
  have HB3 := Lib.hid ((((Below.refl w.heap.size w).alloc (Nat.le_refl _) (Obj.cells #[Value.pointer (some ⟨a, 0, none⟩)] 57)).alloc (by simp) (Obj.cells #[Value.int .i64 k] 3)).alloc (by simp; omega) (Obj.cells #[Value.string ⟨#[]⟩] 9))
  have HA3 := Lib.hid (HA.out.below HB3.out (Nat.le_refl _))
  have r0 : (((w.alloc (Obj.cells #[Value.pointer (some ⟨a, 0, none⟩)] 57)).alloc (Obj.cells #[Value.int .i64 k] 3)).alloc (Obj.cells #[Value.string ⟨#[]⟩] 9)).heap[w.heap.size]? = some (.cells [Value.pointer (some ⟨a, 0, none⟩)].toArray 57 (0, 0)) := by
    rw [Below.heap_alloc _ _ _ (by simp; omega), Below.heap_alloc _ _ _ (by simp)]
    exact heap_alloc_new w _
  have r1 : (((w.alloc (Obj.cells #[Value.pointer (some ⟨a, 0, none⟩)] 57)).alloc (Obj.cells #[Value.int .i64 k] 3)).alloc (Obj.cells #[Value.string ⟨#[]⟩] 9)).heap[w.heap.size + 1]? = some (.cells [Value.int .i64 k].toArray 3 (0, 0)) := by
    rw [Below.heap_alloc _ _ _ (by simp)]
    have := heap_alloc_new (w.alloc (Obj.cells #[Value.pointer (some ⟨a, 0, none⟩)] 57)) (Obj.cells #[Value.int .i64 k] 3)
    rw [World.size_alloc] at this
    exact this
  have r2 : (((w.alloc (Obj.cells #[Value.pointer (some ⟨a, 0, none⟩)] 57)).alloc (Obj.cells #[Value.int .i64 k] 3)).alloc (Obj.cells #[Value.string ⟨#[]⟩] 9)).heap[w.heap.size + 1 + 1]? = some (.cells [Value.string ⟨#[]⟩].toArray 9 (0, 0)) := by
    have := heap_alloc_new ((w.alloc (Obj.cells #[Value.pointer (some ⟨a, 0, none⟩)] 57)).alloc (Obj.cells #[Value.int .i64 k] 3)) (Obj.cells #[Value.string ⟨#[]⟩] 9)
    rw [World.size_alloc, World.size_alloc] at this
    exact this
  have hq : w.heap.size ≤ w.heap.size + 1 + 1 := by omega
  have HQ0 := Lib.hid hq
  have HM0 := Lib.hid (Mods.of_below (S := [a, hb, d, bb]) HB3.out)
  clear HB3 c0 c1 c2 ct ha1 ha2 ha3 hb1 hb2 hb3
  generalize (((w.alloc (Obj.cells #[Value.pointer (some ⟨a, 0, none⟩)] 57)).alloc (Obj.cells #[Value.int .i64 k] 3)).alloc (Obj.cells #[Value.string ⟨#[]⟩] 9)) = W at HM0 HA3 r0 r1 r2 ⊢
  generalize hq2e : w.heap.size + 1 + 1 = q2 at hq HQ0 r2 ⊢
  have HEQ := Lib.hid hq2e
  clear hq2e
  generalize w.heap.size + 1 = q1 at r1 ⊢
  generalize w.heap.size = q0 at hq r0 ha hhb hd hbb ⊢
  have x0 : W.cell? ⟨q0, 0, none⟩ = some (.pointer (some ⟨a, 0, none⟩)) := cell_of_row W _ 0 _ _ _ r0
  have x1 : W.cell? ⟨q1, 0, none⟩ = some (.int .i64 k) := cell_of_row W _ 0 _ _ _ r1
  have c0 := HA3.out.c0
  have c1 := HA3.out.c1
  have hnd : q2 ≠ d := by omega
  have HNE := Lib.hid (show a ≠ q2 ∧ hb ≠ q2 ∧ d ≠ q2 ∧ bb ≠ q2 by omega)
  have HRR := Lib.hid r2
  clear r0 r1 r2
  have HQ02 := Lib.hid hq
  go_cut [4] (fun v4 wx => ∃ (s : ByteArray) (er : Int) (D2 : DM), Hid (A.D.rd z = (s, er, D2)) ∧ v4 = .int .i64 er ∧ wx.cell? ⟨q2, 0, none⟩ = some (.string s) ∧ IsArea wx a hb d bb ⟨D2, A.first, A.held, A.used⟩ ∧ Mods [a, hb, d, bb] w wx)
  case first =>
    go_region_law (first | (go_simp; go_at_call 19; go_must (refine (read_er _ d bb A.D z HR.out (HA3.out.disk.below (Below.refl _ _).drew (Nat.le_refl _))).mono ?_); rintro e w2 ⟨s, er, D2, HQ, rfl, hD2, hm2⟩; have hm2 : Mods [d] W w2 := ⟨hm2.os, hm2.tape, hm2.output, hm2.size, hm2.block⟩; have HA4 := Lib.hid (HA3.out.withDisk (hm2.mono (by simp)) hD2); have hr4 := (hm2.block _ (lt_of_block HRR.out) (by simp; exact hnd)).trans HRR.out; have hc4 : w2.cell? ⟨q2, 0, none⟩ = some (.string ⟨#[]⟩) := cell_of_row w2 _ 0 _ _ _ hr4; have hf4 := frozen_of_row w2 _ 0 _ _ hr4; have HM4 := Lib.hid (HM0.out.trans (hm2.mono (by simp))); have HR4 := Lib.hid hr4; clear hm2 hr4 hD2))
    all_goals
      go_wp2_with fail
      go_meet
      exact ⟨s, er, D2, HQ, rfl, cell_of_row _ _ 0 _ _ _ (row_setCell HR4.out), HA4.out.mods ((Mods.refl [q2] w2).setCell (.inl (by simp)) _) (by simp; exact HNE.out.1) (by simp; exact HNE.out.2.1) (by simp; exact HNE.out.2.2.1) (by simp; exact HNE.out.2.2.2), HM4.out.setCell (.inr HQ0.out) _⟩
  case rest =>
    obtain ⟨s, er, D2, HQ, rfl, hcs, hA, hM⟩ := hcut
    have HA4 := Lib.hid hA
    have HM4 := Lib.hid hM
    clear hA hM c0 c1 x0 x1
    rw [← HEQ.out] at hcs
    go_wp2
    go_ret2
    exact ⟨s, er, D2, HQ, rfl, HA4.out, HM4.out⟩
end Go.Proofs.Ytbcpnfkjncpdcaa
