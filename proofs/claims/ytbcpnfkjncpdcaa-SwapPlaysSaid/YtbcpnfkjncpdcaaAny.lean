/- Read and Write of a disk, for every place and text: one contract each; the document's disk beside it. -/
import Derived.Test.YtbcpnfkjncpdcaaRef
namespace Go.Proofs.Ytbcpnfkjncpdcaa
open Go.RowKit

/-- What Read tells: the text, the error; the disk behind it. -/
def DM.rd (D : DM) (at_ : Int) : ByteArray × Int × DM :=
  if at_ < 0 ∨ (D.secs.length : Int) ≤ at_ then (⟨#[]⟩, 14, D) else (⟨(D.secs.getD at_.toNat []).toArray⟩, 0, { D with reads := D.reads + 1 })
/-- What Write tells, and the disk behind it. -/
def DM.wr (D : DM) (at_ : Int) (str : ByteArray) : Int × DM :=
  if at_ < 0 ∨ (D.secs.length : Int) ≤ at_ then (14, D)
  else if str.size ≠ 64 then (1, D)
  else if at_ < D.sealed_ then (13, D)
  else (0, { D with secs := D.secs.set at_.toNat str.data.toList, writes := D.writes + 1 })

theorem read_any (w : World) (d bb : Nat) (D : DM) (at_ : Int) (hr : 0 ≤ D.reads ∧ D.reads ≤ 1000000) (h : IsDisk w d bb D) :
    Calls Try.prog 19 #[.pointer (some ⟨d, 0, none⟩), .int .i64 at_] w fun e w' =>
      e = .returned (.tuple #[.string (D.rd at_).1, .int .i64 (D.rd at_).2.1]) ∧ IsDisk w' d bb (D.rd at_).2.2 ∧ Mods [d] w w' := by
  by_cases hc : at_ < 0 ∨ (D.secs.length : Int) ≤ at_
  · have : D.rd at_ = (⟨#[]⟩, 14, D) := by simp [DM.rd, hc]
    rw [this]
    exact (read_out w d D.secs.length _ _ at_ hc h.small h.c0).mono fun e w' ⟨he, hb⟩ => ⟨he, h.below hb (Nat.le_refl _), Mods.of_below hb⟩
  · have : D.rd at_ = (⟨(D.secs.getD at_.toNat []).toArray⟩, 0, { D with reads := D.reads + 1 }) := by simp [DM.rd, hc]
    rw [this]
    exact read_in w d bb D at_ (by omega) (by omega) hr h
theorem rread_any (w : World) (r rb cap : Nat) (D : DM) (at_ : Int) (hr : 0 ≤ D.reads ∧ D.reads ≤ 1000000) (h : IsRef w r rb cap D) :
    Calls Try.prog 27 #[.pointer (some ⟨r, 0, none⟩), .int .i64 at_] w fun e w' =>
      e = .returned (.tuple #[.string (D.rd at_).1, .int .i64 (D.rd at_).2.1]) ∧ IsRef w' r rb cap (D.rd at_).2.2 ∧ Mods [r] w w' := by
  by_cases hc : at_ < 0 ∨ (D.secs.length : Int) ≤ at_
  · have : D.rd at_ = (⟨#[]⟩, 14, D) := by simp [DM.rd, hc]
    rw [this]
    refine (rread_out w r rb cap D at_ hc h).mono fun e w' ⟨he, hb⟩ => ?_
    subst hb
    exact ⟨he, h, Mods.refl _ _⟩
  · have : D.rd at_ = (⟨(D.secs.getD at_.toNat []).toArray⟩, 0, { D with reads := D.reads + 1 }) := by simp [DM.rd, hc]
    rw [this]
    exact rread_in w r rb cap D at_ (by omega) (by omega) hr h
theorem write_any (w : World) (d bb : Nat) (D : DM) (at_ : Int) (str : ByteArray) (hw : 0 ≤ D.writes ∧ D.writes ≤ 1000000) (h : IsDisk w d bb D) :
    Calls Try.prog 23 #[.pointer (some ⟨d, 0, none⟩), .int .i64 at_, .string str] w fun e w' => e = .returned (.int .i64 (D.wr at_ str).1) ∧ IsDisk w' d bb (D.wr at_ str).2 ∧ Mods [d, bb] w w' := by
  by_cases hc : at_ < 0 ∨ (D.secs.length : Int) ≤ at_
  · have : D.wr at_ str = (14, D) := by simp [DM.wr, hc]
    rw [this]
    exact (write_out w d D.secs.length _ _ at_ str hc h.small h.c0).mono fun e w' ⟨he, hb⟩ => ⟨he, h.below hb (Nat.le_refl _), Mods.of_below hb⟩
  · by_cases hs : str.size = 64
    · by_cases hse : at_ < D.sealed_
      · have : D.wr at_ str = (13, D) := by simp [DM.wr, hc, hs, hse]
        rw [this]
        exact (write_sealed w d bb D at_ str (by omega) (by omega) hse hs h).mono fun e w' ⟨he, hb⟩ => ⟨he, h.below hb (Nat.le_refl _), Mods.of_below hb⟩
      · have : D.wr at_ str = (0, { D with secs := D.secs.set at_.toNat str.data.toList, writes := D.writes + 1 }) := by simp [DM.wr, hc, hs, hse]
        rw [this]
        exact write_ok w d bb D at_ str (by omega) (by omega) (by omega) hs hw h
    · have : D.wr at_ str = (1, D) := by simp [DM.wr, hc, hs]
      rw [this]
      exact (write_short w d D.secs.length bb at_ str (by omega) (by omega) h.small h.c0 hs).mono fun e w' ⟨he, hb⟩ => ⟨he, h.below hb (Nat.le_refl _), Mods.of_below hb⟩
theorem rwrite_any (w : World) (r rb cap : Nat) (D : DM) (at_ : Int) (str : ByteArray) (hw : 0 ≤ D.writes ∧ D.writes ≤ 1000000) (h : IsRef w r rb cap D) :
    Calls Try.prog 29 #[.pointer (some ⟨r, 0, none⟩), .int .i64 at_, .string str] w fun e w' => e = .returned (.int .i64 (D.wr at_ str).1) ∧ IsRef w' r rb cap (D.wr at_ str).2 ∧ Mods [r, rb] w w' := by
  by_cases hc : at_ < 0 ∨ (D.secs.length : Int) ≤ at_
  · have : D.wr at_ str = (14, D) := by simp [DM.wr, hc]
    rw [this]
    refine (rwrite_no w r rb cap D at_ str h 14 (.inl ⟨hc, rfl⟩)).mono fun e w' ⟨he, hb⟩ => ?_
    subst hb
    exact ⟨he, h, Mods.refl _ _⟩
  · by_cases hs : str.size = 64
    · by_cases hse : at_ < D.sealed_
      · have : D.wr at_ str = (13, D) := by simp [DM.wr, hc, hs, hse]
        rw [this]
        refine (rwrite_no w r rb cap D at_ str h 13 (.inr (.inr ⟨by omega, by omega, hs, hse, rfl⟩))).mono fun e w' ⟨he, hb⟩ => ?_
        subst hb
        exact ⟨he, h, Mods.refl _ _⟩
      · have : D.wr at_ str = (0, { D with secs := D.secs.set at_.toNat str.data.toList, writes := D.writes + 1 }) := by simp [DM.wr, hc, hs, hse]
        rw [this]
        exact rwrite_ok w r rb cap D at_ str (by omega) (by omega) (by omega) hs hw h
    · have : D.wr at_ str = (1, D) := by simp [DM.wr, hc, hs]
      rw [this]
      refine (rwrite_no w r rb cap D at_ str h 1 (.inr (.inl ⟨by omega, by omega, hs, rfl⟩))).mono fun e w' ⟨he, hb⟩ => ?_
      subst hb
      exact ⟨he, h, Mods.refl _ _⟩
theorem DM.rd_len (D : DM) (at_ : Int) : (D.rd at_).2.2.secs.length = D.secs.length ∧ (D.rd at_).2.2.writes = D.writes ∧ D.reads ≤ (D.rd at_).2.2.reads ∧ (D.rd at_).2.2.reads ≤ D.reads + 1 := by
  unfold DM.rd
  split <;> simp <;> omega
theorem DM.wr_len (D : DM) (at_ : Int) (str : ByteArray) : (D.wr at_ str).2.secs.length = D.secs.length ∧ (D.wr at_ str).2.reads = D.reads ∧ D.writes ≤ (D.wr at_ str).2.writes ∧ (D.wr at_ str).2.writes ≤ D.writes + 1 := by
  unfold DM.wr
  split
  · simp; omega
  · split
    · simp; omega
    · split <;> simp <;> omega
end Go.Proofs.Ytbcpnfkjncpdcaa
