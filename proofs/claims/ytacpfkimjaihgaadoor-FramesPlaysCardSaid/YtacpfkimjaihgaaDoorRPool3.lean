/- flyleafref06: the document's pool tells what the program's pool does. No conditions. -/
import Derived.Test.YtacpfkimjaihgaaDoorRPool2
namespace Go.Proofs.YtacpfkimjaihgaaDoor
open Go.RowKit
set_option linter.unusedVariables false

/-- The document's texts are the frames' bytes, of each that is held. -/
structure Same6 (F : FP) (S : List ByteArray) : Prop where
  lenF : F.secs.length = F.held.length
  lenS : S.length = F.held.length
  each : ∀ s ∈ F.secs, s.length = 64
  eq : ∀ k (h : k < F.held.length) (hS : k < S.length), F.held[k] ≠ 0 → S[k] = ⟨(F.sec k).toArray⟩
theorem sec_set {F : FP} {H : List Int} {k j : Nat} {x : List UInt8} (hk : k < F.secs.length) : (FP.mk (F.secs.set j x) H).sec k = if j = k then x else F.sec k := by
  simp only [FP.sec, Int.toNat_natCast]
  rw [List.getD_eq_getElem?_getD, List.getD_eq_getElem?_getD, List.getElem?_set]
  by_cases e : j = k
  · rw [if_pos e, if_pos e, if_pos (by omega)]; rfl
  · rw [if_neg e, if_neg e]
theorem sec_len {F : FP} {S : List ByteArray} (h : Same6 F S) {k : Nat} (hk : k < F.held.length) : (F.sec k).length = 64 := by
  have hk2 : k < F.secs.length := by rw [h.lenF]; exact hk
  rw [FP.sec_nat hk2]
  exact h.each _ (List.getElem_mem _)
/-- One frame's bytes and text, and perhaps its number of holds, become others. -/
theorem Same6.set {F : FP} {S : List ByteArray} (h : Same6 F S) {j : Nat} {x : List UInt8} {v : Int} (hx : x.length = 64) : Same6 ⟨F.secs.set j x, F.held.set j v⟩ (S.set j ⟨x.toArray⟩) := by
  refine ⟨by simpa using h.lenF, by simpa using h.lenS, fun s hs => ?_, fun k hk hS hz => ?_⟩
  · rcases List.mem_or_eq_of_mem_set hs with hs | rfl
    · exact h.each s hs
    · exact hx
  · have hk' : k < F.held.length := by simpa using hk
    rw [List.getElem_set, sec_set (by rw [h.lenF]; exact hk')]
    by_cases e : j = k
    · rw [if_pos e, if_pos e]
    · rw [if_neg e, if_neg e]
      rw [List.getElem_set_ne e] at hz
      exact h.eq k hk' _ hz
theorem Same6.setS {F : FP} {S : List ByteArray} (h : Same6 F S) {j : Nat} {x : List UInt8} (hx : x.length = 64) : Same6 ⟨F.secs.set j x, F.held⟩ (S.set j ⟨x.toArray⟩) := by
  by_cases hj : j < F.held.length
  · have := h.set (j := j) (x := x) (v := F.held[j]) hx
    simpa using this
  · have e1 : F.secs.set j x = F.secs := List.set_eq_of_length_le (by rw [h.lenF]; omega)
    have e2 : S.set j ⟨x.toArray⟩ = S := List.set_eq_of_length_le (by rw [h.lenS]; omega)
    rw [e1, e2]
    exact h
theorem Same6.setH {F : FP} {S : List ByteArray} (h : Same6 F S) {j : Nat} {v : Int} (hz : ∀ q : j < F.held.length, F.held[j] ≠ 0) : Same6 ⟨F.secs, F.held.set j v⟩ S := by
  refine ⟨by simpa using h.lenF, by simpa using h.lenS, h.each, fun k hk hS hz2 => ?_⟩
  have hk' : k < F.held.length := by simpa using hk
  refine h.eq k hk' hS ?_
  by_cases e : j = k
  · subst e; exact hz hk'
  · rw [List.getElem_set_ne e] at hz2
    exact hz2
theorem same6_new (n : Nat) : Same6 (newFP n) (List.replicate n ⟨#[]⟩) := by
  refine ⟨by simp [newFP], by simp [newFP], fun s hs => ?_, fun k hk hS hz => ?_⟩
  · simp only [newFP] at hs
    rw [List.eq_of_mem_replicate hs]
    rfl
  · exact absurd (by simp [newFP]) hz

/-- The document's pool that stands beside the program's. -/
structure DocP (w : World) (r h2 sb : Nat) (F : FP) : Prop where
  ex : ∃ S, IsRP w r h2 sb F.held S ∧ Same6 F S
section
variable {w w' : World} {r h2 sb : Nat} {F : FP}
theorem DocP.mods {T : List Nat} (h : DocP w r h2 sb F) (hm : Mods T w w') (h1 : r ∉ T) (h3 : h2 ∉ T) (h4 : sb ∉ T) : DocP w' r h2 sb F := by
  obtain ⟨S, a, b⟩ := h.ex
  exact ⟨S, a.mods hm h1 h3 h4, b⟩
theorem DocP.below {B : Nat} (h : DocP w r h2 sb F) (hm : Below B w w') (hB : w.heap.size ≤ B) : DocP w' r h2 sb F := by
  obtain ⟨S, a, b⟩ := h.ex
  exact ⟨S, a.below hm hB, b⟩
theorem DocP.lt (h : DocP w r h2 sb F) : r < w.heap.size ∧ h2 < w.heap.size ∧ sb < w.heap.size := by
  obtain ⟨S, a, b⟩ := h.ex
  exact a.lt
theorem DocP.c0 (h : DocP w r h2 sb F) : w.cell? ⟨r, 0, none⟩ = some (.slice (some ⟨h2, 0, none⟩) F.held.length F.held.length) := by
  obtain ⟨S, a, b⟩ := h.ex
  exact a.c0
theorem DocP.at (h : DocP w r h2 sb F) {k : Nat} (hk : k < F.held.length) : w.cell? ⟨h2, k, none⟩ = some (.int .i64 F.held[k]) := by
  obtain ⟨S, a, b⟩ := h.ex
  exact a.at hk
theorem d_new (w : World) (n : Nat) (h1 : 1 ≤ n) (hn : n ≤ 4096) : Calls Tryd.prog 33 #[.int .i64 n] w fun e w' => ∃ r hb sb, e = .returned (.pointer (some ⟨r, 0, none⟩)) ∧ w.heap.size ≤ r ∧ w.heap.size ≤ hb ∧ w.heap.size ≤ sb ∧ DocP w' r hb sb (newFP n) ∧ Below w.heap.size w w' := by
  refine (rp_new w n h1 hn).mono ?_
  rintro e w' ⟨r, hb, sb, he, a, b, c, d, f⟩
  exact ⟨r, hb, sb, he, a, b, c, ⟨_, d, same6_new n⟩, f⟩
theorem d_take (h : DocP w r h2 sb F) : Calls Tryd.prog 34 #[.pointer (some ⟨r, 0, none⟩)] w fun e w' => e = .returned (.tuple #[.int .i64 F.take.1, .int .i64 F.take.2.1]) ∧ DocP w' r h2 sb F.take.2.2 ∧ Mods [r, h2, sb] w w' := by
  obtain ⟨S, a, b⟩ := h.ex
  by_cases hf : firstFree F.held < F.held.length
  · refine (rtake_at w r h2 sb F.held S _ hf (firstFree_at hf) (fun j hj => firstFree_lt hj (by omega)) a).mono ?_
    rintro e w' ⟨he, hT⟩
    rw [FP.take, if_pos hf]
    exact ⟨he, ⟨_, hT.pool, b.set rfl⟩, hT.mods⟩
  · refine (rtake_full w r h2 sb F.held S (fun j hj => firstFree_lt (by omega) hj) a).mono ?_
    rintro e w' ⟨he, rfl⟩
    rw [FP.take, if_neg hf]
    exact ⟨he, h, Mods.refl _ _⟩
theorem d_hold (h : DocP w r h2 sb F) (f : Int) (hB : Few F.held) : Calls Tryd.prog 35 #[.pointer (some ⟨r, 0, none⟩), .int .i64 f, .int .i64 1] w fun e w' => e = .returned (.int .i64 (asked F.held f)) ∧ DocP w' r h2 sb (F.hold f) ∧ Mods [r, h2, sb] w w' := by
  obtain ⟨S, a, b⟩ := h.ex
  by_cases ha : asked F.held f = 0
  · obtain ⟨k, rfl, hk, hz⟩ := asked_ok ha
    refine (radd_ok w r h2 sb F.held S k 1 hk hz (by have := hB _ (List.getElem_mem hk); omega) (.inl rfl) a).mono ?_
    rintro e w' ⟨he, hp, hm⟩
    rw [FP.hold, if_pos ha, ha, Int.toNat_natCast, heldAt_nat hk]
    exact ⟨he, ⟨S, hp, b.setH (fun _ => hz)⟩, hm⟩
  · refine (radd_no w r h2 sb F.held S f 1 ha a).mono ?_
    rintro e w' ⟨he, rfl⟩
    rw [FP.hold, if_neg ha]
    exact ⟨he, h, Mods.refl _ _⟩
theorem d_drop (h : DocP w r h2 sb F) (f : Int) (hB : Few F.held) : Calls Tryd.prog 35 #[.pointer (some ⟨r, 0, none⟩), .int .i64 f, .int .i64 (-1)] w fun e w' => e = .returned (.int .i64 (asked F.held f)) ∧ DocP w' r h2 sb (F.drop f) ∧ Mods [r, h2, sb] w w' := by
  obtain ⟨S, a, b⟩ := h.ex
  by_cases ha : asked F.held f = 0
  · obtain ⟨k, rfl, hk, hz⟩ := asked_ok ha
    refine (radd_ok w r h2 sb F.held S k (-1) hk hz (by have := hB _ (List.getElem_mem hk); omega) (.inr rfl) a).mono ?_
    rintro e w' ⟨he, hp, hm⟩
    rw [FP.drop, if_pos ha, ha, Int.toNat_natCast, heldAt_nat hk]
    exact ⟨he, ⟨S, hp, b.setH (fun _ => hz)⟩, hm⟩
  · refine (radd_no w r h2 sb F.held S f (-1) ha a).mono ?_
    rintro e w' ⟨he, rfl⟩
    rw [FP.drop, if_neg ha]
    exact ⟨he, h, Mods.refl _ _⟩
theorem Same6.text {F : FP} {S : List ByteArray} (b : Same6 F S) {k : Nat} (hk : k < F.held.length) (hz : F.held[k] ≠ 0) : ∃ hS : k < S.length, S[k] = ⟨(F.sec k).toArray⟩ ∧ S[k] = F.bytes k ∧ S[k].size = 64 := by
  have hS : k < S.length := by rw [b.lenS]; exact hk
  have h1 := b.eq k hk hS hz
  refine ⟨hS, h1, by rw [h1, bytes_at hk hz], ?_⟩
  rw [h1]
  simpa [ByteArray.size] using sec_len b hk
theorem d_bytes (h : DocP w r h2 sb F) (f : Int) : Calls Tryd.prog 36 #[.pointer (some ⟨r, 0, none⟩), .int .i64 f] w fun e w' => e = .returned (.tuple #[.string (F.bytes f), .int .i64 (asked F.held f)]) ∧ w = w' := by
  obtain ⟨S, a, b⟩ := h.ex
  by_cases ha : asked F.held f = 0
  · obtain ⟨k, rfl, hk, hz⟩ := asked_ok ha
    obtain ⟨hS, e1, e2, e3⟩ := b.text hk hz
    rw [← e2, ha]
    exact rbytes_ok w r h2 sb F.held S k hS ha a
  · rw [FP.bytes, if_neg ha]
    exact rbytes_bad w r h2 sb F.held S f ha a
theorem d_fill (h : DocP w r h2 sb F) (f : Int) (s : ByteArray) : Calls Tryd.prog 37 #[.pointer (some ⟨r, 0, none⟩), .int .i64 f, .string s] w fun e w' => e = .returned (.int .i64 (F.fillE f s)) ∧ DocP w' r h2 sb (F.fill f s) ∧ Mods [r, h2, sb] w w' := by
  obtain ⟨S, a, b⟩ := h.ex
  by_cases ha : asked F.held f = 0
  · obtain ⟨k, rfl, hk, hz⟩ := asked_ok ha
    obtain ⟨hS, e1, e2, e3⟩ := b.text hk hz
    by_cases hs : s.size = 64
    · refine (rfill_ok w r h2 sb F.held S k s hS ha hs a).mono ?_
      rintro e w' ⟨he, hp, hm⟩
      rw [(fill_at hk hz hs).1, (fill_at hk hz hs).2]
      exact ⟨he, ⟨_, hp, b.setS (x := s.data.toList) (by rw [Array.length_toList]; exact hs)⟩, hm⟩
    · refine (rfill_short w r h2 sb F.held S k s ha hs a).mono ?_
      rintro e w' ⟨he, rfl⟩
      have e1 : F.fillE k s = 1 := by rw [FP.fillE, if_pos ha, if_neg hs]
      rw [FP.fill, if_neg (by rw [e1]; decide), e1]
      exact ⟨he, h, Mods.refl _ _⟩
  · refine (rfill_bad w r h2 sb F.held S f s ha a).mono ?_
    rintro e w' ⟨he, rfl⟩
    have e1 : F.fillE f s = asked F.held f := by rw [FP.fillE, if_neg ha]
    rw [FP.fill, if_neg (by rw [e1]; exact ha), e1]
    exact ⟨he, h, Mods.refl _ _⟩
theorem d_copy (h : DocP w r h2 sb F) (f : Int) : Calls Tryd.prog 38 #[.pointer (some ⟨r, 0, none⟩), .int .i64 f] w fun e w' => e = .returned (.tuple #[.int .i64 (F.copy f).1, .int .i64 (F.copy f).2.1]) ∧ DocP w' r h2 sb (F.copy f).2.2 ∧ Mods [r, h2, sb] w w' := by
  obtain ⟨S, a, b⟩ := h.ex
  by_cases ha : asked F.held f = 0
  · obtain ⟨k, rfl, hk, hz⟩ := asked_ok ha
    obtain ⟨hS, e1, e2, e3⟩ := b.text hk hz
    rw [FP.copy, if_pos ha]
    by_cases hf : firstFree F.held < F.held.length
    · rw [if_pos hf]
      refine (rcopy_ok w r h2 sb F.held S k _ hS ha hf (firstFree_at hf) (fun j hj => firstFree_lt hj (by omega)) a).mono ?_
      rintro e w' ⟨he, hp, hm⟩
      rw [e1] at hp
      exact ⟨he, ⟨_, hp, b.set (sec_len b hk)⟩, hm⟩
    · rw [if_neg hf]
      refine (rcopy_full w r h2 sb F.held S k hS ha (fun j hj => firstFree_lt (by omega) hj) a).mono ?_
      rintro e w' ⟨he, rfl⟩
      exact ⟨he, h, Mods.refl _ _⟩
  · rw [FP.copy, if_neg ha]
    refine (rcopy_bad w r h2 sb F.held S f ha a).mono ?_
    rintro e w' ⟨he, rfl⟩
    exact ⟨he, h, Mods.refl _ _⟩
set_option maxHeartbeats 800000 in
theorem d_load (h : DocP w r h2 sb F) (f a kind : Int) : Calls Tryd.prog 39 #[.pointer (some ⟨r, 0, none⟩), .int .i64 f, .int .i64 a, .int .i64 kind] w fun e w' => e = .returned (.tuple #[.int .u64 (F.load f a kind), .int .i64 (F.loadE f a kind)]) ∧ w = w' := by
  have HD := Lib.hid (d_bytes h f)
  by_cases ha : asked F.held f = 0
  · obtain ⟨k, rfl, hk, hz⟩ := asked_ok ha
    obtain ⟨S, p, b⟩ := h.ex
    obtain ⟨hS, e1, e2, e3⟩ := b.text hk hz
    have hb : F.bytes k = ⟨(F.sec k).toArray⟩ := by rw [← e2, e1]
    have hb64 : (⟨(F.sec k).toArray⟩ : ByteArray).size = 64 := by rw [← e1, e3]
    rw [hb, ha] at HD
    have hr := widthOf_range kind
    by_cases hw : widthOf kind = 0
    · have q1 : F.loadE k a kind = 1 := by rw [FP.loadE, if_pos ha, if_pos hw]
      have q2 : F.load k a kind = 0 := by rw [FP.load, if_neg (by rw [q1]; decide)]
      rw [q1, q2]
      generalize (⟨(F.sec k).toArray⟩ : ByteArray) = s at HD
      have HW := Lib.hid hw
      clear h ha p b hz e1 e2 e3 hb hb64 hr q1 q2 hw hk hS
      go_enter Tryd.func39, Tryd.ntmps39
      go_wp2_with fail
      refine HD.out.mono ?_
      rintro e w1 ⟨rfl, rfl⟩
      go_wp2_with fail
      refine (rwidth_any _ kind).mono ?_
      rintro e w1 ⟨rfl, rfl⟩
      rw [HW.out]
      go_wp2_with fail
      go_ret2
      exact ⟨rfl, rfl⟩
    · obtain ⟨n, hn⟩ := Int.eq_ofNat_of_zero_le hr.1
      by_cases hi : withinB a n 64 = true
      · have := of_decide_eq_true hi
        obtain ⟨at_, rfl⟩ := Int.eq_ofNat_of_zero_le this.1
        have hat : at_ + n ≤ 64 := by omega
        have q1 := loadE_at hk hz hn (by omega) hat
        have q2 := load_at hk hz hn (by omega) hat
        rw [q1, q2]
        have hsl : (⟨(F.sec k).toArray⟩ : ByteArray).extract at_ (at_ + n) = ⟨(((F.sec k).drop at_).take n).toArray⟩ := by rw [bytes_extract]; simp
        have hrd : readOf kind ⟨(((F.sec k).drop at_).take n).toArray⟩ = (clipOf kind (leV (((F.sec k).drop at_).take n)), 0) := by
          have hl64 := sec_len b hk
          have hz3 : (⟨(((F.sec k).drop at_).take n).toArray⟩ : ByteArray).size = n := by simp [ByteArray.size, hl64]; omega
          rw [readOf, if_neg hw, if_neg (by rw [hz3, hn]; simp)]
        generalize (⟨(F.sec k).toArray⟩ : ByteArray) = s at HD hsl hb64
        generalize (((F.sec k).drop at_).take n) = l at hsl hrd ⊢
        generalize clipOf kind (leV l) = v at hrd ⊢
        have hlz : (⟨l.toArray⟩ : ByteArray).size < 9223372036854775808 := by
          rw [← hsl, ByteArray.size_extract]; omega
        generalize (⟨l.toArray⟩ : ByteArray) = sl at hsl hrd hlz
        have HN := Lib.hid hn
        have HRD := Lib.hid hrd
        have HP := Lib.hid (rpart_yes w s at_ n hb64 hat)
        rw [hsl] at HP
        have hn0 : ((n : Int) == 0) = false := by simp; omega
        clear h ha p b hz e1 e2 e3 hb hb64 hr q1 q2 hw hk hS hsl hi this hat hrd
        go_enter Tryd.func39, Tryd.ntmps39
        go_wp2_with fail
        refine HD.out.mono ?_
        rintro e w1 ⟨rfl, rfl⟩
        go_wp2_with fail
        refine (rwidth_any _ kind).mono ?_
        rintro e w1 ⟨rfl, rfl⟩
        rw [HN.out]
        clear hn
        go_wp2_with fail
        refine HP.out.mono ?_
        rintro e w1 ⟨rfl, rfl⟩
        go_wp2_with fail
        refine (rread_any _ kind sl hlz).mono ?_
        rintro e w1 ⟨rfl, rfl⟩
        rw [HRD.out]
        go_wp2_with fail
        go_ret2
        exact ⟨rfl, rfl⟩
      · have hi' : withinB a n 64 = false := by simpa using hi
        have q1 : F.loadE k a kind = 14 := by rw [FP.loadE, if_pos ha, if_neg hw, hn, if_neg hi]
        have q2 : F.load k a kind = 0 := by rw [FP.load, if_neg (by rw [q1]; decide)]
        rw [q1, q2]
        generalize (⟨(F.sec k).toArray⟩ : ByteArray) = s at HD hb64
        have HN := Lib.hid hn
        have HP := Lib.hid (rpart_no w s a n hb64 hi')
        have hn0 : ((n : Int) == 0) = false := by simp; omega
        clear h ha p b hz e1 e2 e3 hb hb64 hr q1 q2 hw hk hS hi hi'
        go_enter Tryd.func39, Tryd.ntmps39
        go_wp2_with fail
        refine HD.out.mono ?_
        rintro e w1 ⟨rfl, rfl⟩
        go_wp2_with fail
        refine (rwidth_any _ kind).mono ?_
        rintro e w1 ⟨rfl, rfl⟩
        rw [HN.out]
        clear hn
        go_wp2_with fail
        refine HP.out.mono ?_
        rintro e w1 ⟨rfl, rfl⟩
        go_wp2_with fail
        go_ret2
        exact ⟨rfl, rfl⟩
  · have q1 : F.loadE f a kind = asked F.held f := by rw [FP.loadE, if_neg ha]
    have q2 : F.load f a kind = 0 := by rw [FP.load, if_neg (by rw [q1]; exact ha)]
    have q3 : F.bytes f = ⟨#[]⟩ := by rw [FP.bytes, if_neg ha]
    rw [q1, q2]
    rw [q3] at HD
    obtain ⟨q, hq⟩ : ∃ q, q = asked F.held f := ⟨_, rfl⟩
    rw [← hq] at ha HD ⊢
    have hz' : (q != 0) = true := by simp [ha]
    clear h ha q1 q2 q3 hq
    go_enter Tryd.func39, Tryd.ntmps39
    go_wp2_with fail
    refine HD.out.mono ?_
    rintro e w1 ⟨rfl, rfl⟩
    go_wp2_with fail
    go_ret2
    exact ⟨rfl, rfl⟩
theorem d_free (h : DocP w r h2 sb F) : Calls Tryd.prog 41 #[.pointer (some ⟨r, 0, none⟩)] w fun e w' => e = .returned (.int .i64 (frees F.held : Int)) ∧ w = w' := by
  obtain ⟨S, a, b⟩ := h.ex
  exact rfree_any w r h2 sb F.held S a
end
end Go.Proofs.YtacpfkimjaihgaaDoor
