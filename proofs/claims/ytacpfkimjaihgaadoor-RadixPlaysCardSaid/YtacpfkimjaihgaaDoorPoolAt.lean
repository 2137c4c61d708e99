/- Package frames: a pool that a law's own call made, seen from where the law began; the laws' awake. -/
import Derived.Test.YtacpfkimjaihgaaDoorPoolAny
namespace Go.Proofs.YtacpfkimjaihgaaDoor
open Go.RowKit
set_option linter.unusedVariables false

structure At (w0 w : World) (p bb hb : Nat) (F : FP) : Prop where
  pool : IsPool w p bb hb F
  below : Below w0.heap.size w0 w
  hp : w0.heap.size ≤ p
  hbb : w0.heap.size ≤ bb
  hhb : w0.heap.size ≤ hb
section
variable {w0 w w' : World} {p bb hb : Nat} {F F' : FP}
theorem At.wd (h : At w0 w p bb hb F) (hw : Wd w0) : Wd w := hw.below h.below (Nat.le_refl _)
theorem At.step (h : At w0 w p bb hb F) (hp' : IsPool w' p bb hb F') (hm : Mods [p, bb, hb] w w') : At w0 w' p bb hb F' :=
  ⟨hp', below_after h.below hm h.below.size (by have := h.hp; have := h.hbb; have := h.hhb; intro i hi; simp at hi; omega), h.hp, h.hbb, h.hhb⟩
theorem At.stay (h : At w0 w p bb hb F) (hb' : Below w.heap.size w w') : At w0 w' p bb hb F :=
  ⟨h.pool.below hb' (Nat.le_refl _), h.below.trans (hb'.mono h.below.size), h.hp, h.hbb, h.hhb⟩
theorem new_at (hb0 : Below w0.heap.size w0 w) (s : Int) (h0 : 1 ≤ s) (h1 : s ≤ 4096) :
    Calls Tryd.prog 18 #[.int .i64 s] w fun e w' => ∃ p bb hb, e = .returned (.pointer (some ⟨p, 0, none⟩)) ∧ At w0 w' p bb hb (newFP s.toNat) := by
  obtain ⟨n, rfl⟩ := Int.eq_ofNat_of_zero_le (show 0 ≤ s by omega)
  refine (new_ok w n (by omega) (by omega)).mono ?_
  rintro e w' ⟨p, bb, hb, rfl, hp, hbb, hhb, hP, hB⟩
  have := hb0.size
  exact ⟨p, bb, hb, rfl, hP, hb0.trans (hB.mono this), by omega, by omega, by omega⟩
theorem At.take (h : At w0 w p bb hb F) : Calls Tryd.prog 19 #[.pointer (some ⟨p, 0, none⟩)] w fun e w' => e = .returned (.tuple #[.int .i64 F.take.1, .int .i64 F.take.2.1]) ∧ At w0 w' p bb hb F.take.2.2 :=
  (take_any w p bb hb F h.pool).mono fun _ _ ⟨he, hp, hm⟩ => ⟨he, h.step hp hm⟩
theorem At.hold (h : At w0 w p bb hb F) (f : Int) (hB : Few F.held) : Calls Tryd.prog 28 #[.pointer (some ⟨p, 0, none⟩), .int .i64 f] w fun e w' => e = .returned (.int .i64 (asked F.held f)) ∧ At w0 w' p bb hb (F.hold f) :=
  (hold_any w p bb hb F f hB h.pool).mono fun _ _ ⟨he, hp, hm⟩ => ⟨he, h.step hp hm⟩
theorem At.drop (h : At w0 w p bb hb F) (f : Int) (hB : Few F.held) : Calls Tryd.prog 29 #[.pointer (some ⟨p, 0, none⟩), .int .i64 f] w fun e w' => e = .returned (.int .i64 (asked F.held f)) ∧ At w0 w' p bb hb (F.drop f) :=
  (drop_any w p bb hb F f hB h.pool).mono fun _ _ ⟨he, hp, hm⟩ => ⟨he, h.step hp hm⟩
theorem At.bytes (h : At w0 w p bb hb F) (f : Int) : Calls Tryd.prog 26 #[.pointer (some ⟨p, 0, none⟩), .int .i64 f] w fun e w' => e = .returned (.tuple #[.string (F.bytes f), .int .i64 (asked F.held f)]) ∧ At w0 w' p bb hb F :=
  (fbytes_any w p bb hb F f h.pool).mono fun _ _ ⟨he, hb'⟩ => ⟨he, h.stay hb'⟩
theorem At.fill (h : At w0 w p bb hb F) (f : Int) (s : ByteArray) : Calls Tryd.prog 25 #[.pointer (some ⟨p, 0, none⟩), .int .i64 f, .string s] w fun e w' => e = .returned (.int .i64 (F.fillE f s)) ∧ At w0 w' p bb hb (F.fill f s) :=
  (fill_any w p bb hb F f s h.pool).mono fun _ _ ⟨he, hp, hm⟩ => ⟨he, h.step hp hm⟩
theorem At.copy (h : At w0 w p bb hb F) (f : Int) : Calls Tryd.prog 20 #[.pointer (some ⟨p, 0, none⟩), .int .i64 f] w fun e w' => e = .returned (.tuple #[.int .i64 (F.copy f).1, .int .i64 (F.copy f).2.1]) ∧ At w0 w' p bb hb (F.copy f).2.2 :=
  (copy_any w p bb hb F f h.pool).mono fun _ _ ⟨he, hp, hm⟩ => ⟨he, h.step hp hm⟩
theorem At.load (h : At w0 w p bb hb F) (hw : Wd w0) (f a kind : Int) : Calls Tryd.prog 22 #[.pointer (some ⟨p, 0, none⟩), .int .i64 f, .int .i64 a, .int .i64 kind] w fun e w' => e = .returned (.tuple #[.int .u64 (F.load f a kind), .int .i64 (F.loadE f a kind)]) ∧ At w0 w' p bb hb F :=
  (load_any w p bb hb F f a kind (h.wd hw) h.pool).mono fun _ _ ⟨he, hb'⟩ => ⟨he, h.stay hb'⟩
theorem At.store (h : At w0 w p bb hb F) (hw : Wd w0) (f a kind x : Int) (hx0 : 0 ≤ x) (hx1 : x < 18446744073709551616) : Calls Tryd.prog 21 #[.pointer (some ⟨p, 0, none⟩), .int .i64 f, .int .i64 a, .int .i64 kind, .int .u64 x] w fun e w' => e = .returned (.int .i64 (F.loadE f a kind)) ∧ At w0 w' p bb hb (F.store f a kind x) :=
  (store_any w p bb hb F f a kind x (h.wd hw) hx0 hx1 h.pool).mono fun _ _ ⟨he, hp, hm⟩ => ⟨he, h.step hp hm⟩
theorem At.held (h : At w0 w p bb hb F) (f : Int) : Calls Tryd.prog 30 #[.pointer (some ⟨p, 0, none⟩), .int .i64 f] w fun e w' => e = .returned (.int .i64 (heldAt F.held f)) ∧ w = w' := held_any w p bb hb _ _ _ f h.pool
theorem At.free (h : At w0 w p bb hb F) : Calls Tryd.prog 31 #[.pointer (some ⟨p, 0, none⟩)] w fun e w' => e = .returned (.int .i64 (frees F.held : Int)) ∧ w = w' := free_any w p _ h.pool.c2
theorem At.frames (h : At w0 w p bb hb F) : Calls Tryd.prog 32 #[.pointer (some ⟨p, 0, none⟩)] w fun e w' => e = .returned (.int .i64 (F.held.length : Int)) ∧ w = w' := frames_any w p _ _ _ h.pool.c1
end

def aw1 : FP := (newFP 4).take.2.2
def aw2 : FP := aw1.store 0 8 2 258
theorem aw_take : (newFP 4).take.1 = 0 ∧ (newFP 4).take.2.1 = 0 := by decide
theorem aw_store : aw1.loadE 0 8 2 = 0 := by decide
theorem aw_loadE : aw2.loadE 0 8 1 = 0 := by decide
theorem aw_load : aw2.load 0 8 1 = 2 := by decide
set_option maxHeartbeats 1000000 in
theorem awake06 (w : World) (hw : Wd w) : Calls Tryd.prog 17 #[] w fun e w' => e = .returned (.bool true) ∧ Below w.heap.size w w' := by
  have HW := Lib.hid hw
  clear hw
  go_enter Tryd.func17, Tryd.ntmps17
  go_wp2_with (first
    | (go_at_call 18; refine (new_at (Below.refl _ w) 4 (by decide) (by decide)).mono ?_; rintro e w1 ⟨p, bb, hb, rfl, hA⟩; have HA := Lib.hid (show At w w1 p bb hb (newFP 4) from hA); clear hA)
    | (go_at_call 19; refine (HA.out.take).mono ?_; rintro e w2 ⟨rfl, hA⟩; rw [aw_take.1, aw_take.2]; have HA2 := Lib.hid (show At w w2 p bb hb aw1 from hA); clear hA)
    | (go_at_call 21; refine (HA2.out.store HW.out 0 8 2 258 (by decide) (by decide)).mono ?_; rintro e w3 ⟨rfl, hA⟩; rw [aw_store]; have HA3 := Lib.hid (show At w w3 p bb hb aw2 from hA); clear hA)
    | (go_at_call 22; refine (HA3.out.load HW.out 0 8 1).mono ?_; rintro e w4 ⟨rfl, hA⟩; rw [aw_loadE, aw_load]; have HA4 := Lib.hid hA; clear hA))
  go_ret
  exact ⟨rfl, HA4.out.below⟩
end Go.Proofs.YtacpfkimjaihgaaDoor
