/- Fork. Nothing here is conditional. -/
import Derived.Test.YtjhggfpnafhonaaNew
namespace Go.Proofs.Ytjhggfpnafhonaa
open Go.RowKit Go.Maps

theorem Tab.mods {S : List Nat} {w w' : World} {t b : Nat} {T : List Pr} (h : Tab w t b T) (hb : Mods S w w') (ht : t ∉ S) (hB : b ∉ S) : Tab w' t b T := by
  have hlt := h.lt
  obtain ⟨⟨fr, h1⟩, h2, h3⟩ := h
  exact ⟨⟨fr, (hb.block t hlt ht).trans h1⟩, h2.block (hb.block b h2.lt hB), h3⟩

theorem wf_small (m : Int) (h1 : -1000 ≤ m) (h2 : m ≤ 1000) : (Lit.int .i64 m).wf = true := by
  have e1 : IntKind.i64.min = -9223372036854775808 := by decide
  have e2 : IntKind.i64.max = 9223372036854775807 := by decide
  simp [Lit.wf, e1, e2]
  omega

theorem asked_is (w : World) (t b : Nat) (T : List Pr) (hT : Tab w t b T) (k : Int) (hk : (Lit.int .i64 k).wf = true) (v : Int) (hv : askedV T k = v) :
    Calls Try.prog 17 #[.pointer (some ⟨t, 0, none⟩), .int .i64 k] w fun e w' => e = .returned (.int .i64 v) ∧ Below w.heap.size w w' := by
  subst hv
  exact asked_any w t b T hT k hk

set_option maxHeartbeats 1000000 in
theorem fork_no (w : World) (t b : Nat) (T : List Pr) (hT : Tab w t b T) (k : Int) (hk : (Lit.int .i64 k).wf = true) (e0 : Int) (he : askedV T k = e0) (hn : e0 ≠ 0) :
    Calls Try.prog 10 #[.pointer (some ⟨t, 0, none⟩), .int .i64 k] w fun e w' => e = .returned (.tuple #[.int .i64 0, .int .i64 e0]) ∧ Below w.heap.size w w' := by
  go_enter Try.func10, Try.ntmps10
  go_wp2
  go_step3
  go_wp2_with (go_at_call 17; refine (asked_is _ t b T hT k hk e0 he).mono ?_; rintro e w' ⟨rfl, hb⟩)
  rw [Exit.noGoto_ret]
  go_returns
  exact ⟨rfl, hb⟩

set_option maxHeartbeats 1000000 in
theorem fork_full (w : World) (t b : Nat) (T : List Pr) (hT : Tab w t b T) (k : Int) (hk : (Lit.int .i64 k).wf = true) (he : askedV T k = 0) (hl : (T.length : Int) = 32) :
    Calls Try.prog 10 #[.pointer (some ⟨t, 0, none⟩), .int .i64 k] w fun e w' => e = .returned (.tuple #[.int .i64 0, .int .i64 15]) ∧ Below w.heap.size w w' := by
  have ht := hT.lt
  have hm := hT.2.1
  have hbl := hm.lt
  have hc := hT.cell
  go_enter Try.func10, Try.ntmps10
  go_wp2
  go_step3
  go_wp2_with (first
    | (go_at_call 17; refine (asked_is _ t b T hT k hk 0 he).mono ?_; rintro e w1 ⟨rfl, hb⟩; have m1 := hm.below hb hbl; have c1 := (hb.cell (p := ⟨t, 0, none⟩) ht).trans hc)
    | (at_len; refine wpList_len_t _ rfl _ rfl m1 rfl ?_; rw [hl]))
  rw [Exit.noGoto_ret]
  go_returns
  exact ⟨rfl, hb⟩

set_option maxHeartbeats 2000000 in
theorem fork_ok (w : World) (t b : Nat) (T : List Pr) (hT : Tab w t b T) (k : Int) (hk : (Lit.int .i64 k).wf = true) (he : askedV T k = 0) (hl : T.length < 32) (n : Int) (hn : free T n) :
    Calls Try.prog 10 #[.pointer (some ⟨t, 0, none⟩), .int .i64 k] w fun e w' => e = .returned (.tuple #[.int .i64 n, .int .i64 0]) ∧ Tab w' t b (ins T ⟨n, k, 1, 0⟩) ∧ Mods [b] w w' := by
  have ht := hT.lt
  have hm := hT.2.1
  have hbl := hm.lt
  have hc := hT.cell
  have hne := hT.2.2
  obtain ⟨n1, n2, n3⟩ := hn
  have hn40 : n ≤ 40 := by
    have := find_len hm.2 (n - 1).toNat 1 (fun j h1 h2 => n3 j h1 (by omega))
    omega
  have H3 := Lib.hid n3
  have H2 := Lib.hid n2
  have HT := Lib.hid hT
  clear n3 n2 hT
  have hl' : ((T.length : Int) ≥ 32) = False := by simp; omega
  go_enter Try.func10, Try.ntmps10
  go_wp2
  go_step3
  go_wp2_with (first
    | (go_at_call 17; refine (asked_is _ t b T HT.out k hk 0 he).mono ?_; rintro e w1 ⟨rfl, hb⟩; have m1 := hm.below hb hbl; have c1 := (hb.cell (p := ⟨t, 0, none⟩) ht).trans hc)
    | (at_len; refine wpList_len_t _ rfl _ rfl m1 rfl ?_))

  have s1 := hb.size
  have ht1 : t < w1.heap.size := by omega
  have hbl1 : b < w1.heap.size := by omega
  go_step3
  go_wp2
  go_loopw [7] (fun i wr => ∃ m : Int, 1 ≤ m ∧ m ≤ n ∧ i = .int .i64 m ∧ Below w1.heap.size w1 wr)
    (fun i _ => match i with | .int _ m => (n - m).toNat | _ => 0)
  case atStart => exact ⟨1, by omega, by omega, rfl, Below.refl _ _⟩
  case round =>
    obtain ⟨m, hm1, hm2, rfl, hbel⟩ := hrel
    have zr := hbel.size
    have c2 := (hbel.cell (p := ⟨t, 0, none⟩) ht1).trans c1
    have m2 := m1.below hbel hbl1
    have ht2 : t < wr.heap.size := by omega
    have htn : t ≠ wr.heap.size := by omega
    have hwm : (Lit.int .i64 m).wf = true := wf_small m (by omega) (by omega)
    by_cases hlt : m < n
    · have his := H3.out m hm1 hlt
      obtain ⟨p, hp⟩ := Option.isSome_iff_exists.1 his
      obtain ⟨p1, p2, p3, p4⟩ := p
      have hfe : ((find T m).getD Pr.zero).enc = .agg #[.int .i64 p1, .int .i64 p2, .int .i64 p3, .int .i64 p4] := by rw [hp]; rfl
      clear hp
      go_wp2_with (at_lookup; refine wpList_look_ok_t _ rfl _ _ rfl m2 rfl rfl hwm hfe his ?_)
      go_roundw
      case rel => exact ⟨m + 1, by omega, by omega, by go_num, hbel.alloc zr _⟩
      case measure => simp; omega
    · obtain rfl : m = n := by omega
      have hfe : ((find T m).getD Pr.zero).enc = .agg #[.int .i64 0, .int .i64 0, .int .i64 0, .int .i64 0] := by rw [H2.out]; rfl
      have his : (find T m).isSome = false := by rw [H2.out]; rfl
      go_wp2_with (first
        | (at_lookup; refine wpList_look_ok_t _ rfl _ _ rfl m2 rfl rfl hwm hfe his ?_)
        | (at_mapUpdate; refine wpList_update_t _ rfl _ _ _ rfl (m2.alloc _) (by omega) ⟨m, k, 1, 0⟩ rfl rfl hwm rfl ?_; intro w3 hm3 hgr))
      go_returns
      have M : Mods [b] w w3 := ((Mods.of_below (hb.trans (hbel.mono s1))).alloc _).grown hgr (fun r hr => by cases hr; exact .inl (by simp))
      refine ⟨rfl, ⟨?_, hm3, hne⟩, M⟩
      obtain ⟨fr, h1⟩ := HT.out.1
      exact ⟨fr, (M.block t ht (by simpa using hne)).trans h1⟩
end Go.Proofs.Ytjhggfpnafhonaa
