/- radix: New; how many nodes there are; the laws' awake. No conditions. -/
import Derived.Test.YtacpfkimjaihgaaDoorRDrop
namespace Go.Proofs.YtacpfkimjaihgaaDoor
open Go.RowKit
set_option linter.unusedVariables false
section
variable {w0 w : World} {t p bb hb n root : Nat} {F : FP} {N : Nat → Nat → Option Nat} {C : Nat → Option Sl} {k : Int}

def N0 (f : Nat) : Nat → Nat → Option Nat := upd2 (fun _ _ => none) 0 0 (some f)
def C0 : Nat → Option Sl := fun _ => none
theorem cnt_none : cnt (fun _ _ => none) = 0 := by simp [cnt, cntL]
theorem cnt_N0 (f : Nat) : cnt (N0 f) = 1 := by
  unfold N0
  rw [cnt_grow (by decide) (by decide) rfl, cnt_none]
theorem tight0 (f : Nat) : Tight (N0 f) C0 := by
  intro l q hl hs
  unfold N0 at hs
  rw [upd2_ne _ _ (by omega)] at hs
  simp at hs
theorem tr_new {E : Nat → Nat → Sl} {H : Nat → Prop} {f : Nat} (hf : H f) (hz : ∀ i, i < 8 → E f i = .zero) : Tr E H (N0 f) C0 f := by
  have h1 : ∀ l q, ¬ (l = 0 ∧ q = 0) → N0 f l q = none := fun l q h => by unfold N0; rw [upd2_ne _ _ h]
  refine ⟨upd2_at _ _ _ _, ?_, ?_, ?_, ?_, ?_, ?_, ?_, ?_⟩
  · intro l q g hl hg i hi
    by_cases e : l = 0 ∧ q = 0
    · obtain ⟨rfl, rfl⟩ := e
      unfold N0 at hg
      rw [upd2_at] at hg
      cases hg
      rw [hz i hi, h1 _ _ (by omega)]
    · rw [h1 _ _ e] at hg; cases hg
  · intro q g hg i hi
    rw [h1 _ _ (by omega)] at hg; cases hg
  · intro l q hl hq i hi
    exact h1 _ _ (by omega)
  · intro q hq i hi
    rfl
  · intro l q l' q' g ha hb
    by_cases e : l = 0 ∧ q = 0
    · by_cases e' : l' = 0 ∧ q' = 0
      · omega
      · rw [h1 _ _ e'] at hb; cases hb
    · rw [h1 _ _ e] at ha; cases ha
  · intro l q g hg
    by_cases e : l = 0 ∧ q = 0
    · obtain ⟨rfl, rfl⟩ := e
      unfold N0 at hg
      rw [upd2_at] at hg
      cases hg
      exact hf
    · rw [h1 _ _ e] at hg; cases hg
  · intro l q g hg
    by_cases e : l = 0 ∧ q = 0
    · obtain ⟨rfl, rfl⟩ := e
      exact ⟨by decide, by decide⟩
    · rw [h1 _ _ e] at hg; cases hg
  · intro x s h; cases h

theorem take_at_is {F1 : FP} (h : At w0 w p bb hb F) (f : Int) (hF : F.take = (f, 0, F1)) : Calls Tryd.prog 19 #[.pointer (some ⟨p, 0, none⟩)] w fun e w' => e = .returned (.tuple #[.int .i64 f, .int .i64 0]) ∧ At w0 w' p bb hb F1 ∧ w.heap.size ≤ w'.heap.size := by
  refine (take_any w p bb hb F h.pool).mono ?_
  rintro e w' ⟨rfl, hp, hm⟩
  rw [hF] at hp ⊢
  exact ⟨rfl, h.step hp hm, hm.size⟩
set_option maxHeartbeats 2000000 in
theorem new_table (h : At w0 w p bb hb (newFP n)) (h1 : 1 ≤ n) (h4 : n ≤ 4096) :
    Calls Tryd.prog 48 #[.pointer (some ⟨p, 0, none⟩)] w fun e w' => ∃ t root F1, e = .returned (.tuple #[.pointer (some ⟨t, 0, none⟩), .int .i64 0]) ∧ w.heap.size ≤ t ∧ Rst w0 w' t p bb hb n F1 root (N0 root) C0 := by
  obtain ⟨hfit, hno, hfr⟩ := new_fit n
  obtain ⟨f, F1, t1, t2, t3, t4, t5, t6, t7, t8⟩ := take_fit hfit (by omega)
  have HG := Lib.hid (And.intro t4 (And.intro t5 (And.intro t6 t8)))
  have hs0 := h.below.size
  have hlt := h.pool.lt
  have HH := Lib.hid h
  clear t4 t5 t6 t7 t8 h
  go_enter Tryd.func48, Tryd.ntmps48
  go_wp2_with (go_at_call 19; refine (take_at_is HH.out (f : Int) t1).mono ?_; rintro e w1 ⟨rfl, hA, hsz⟩)
  go_ret2
  have hs1 := hA.below.size
  have hl1 := hA.pool.lt
  obtain ⟨t4, t5, t6, t8⟩ := HG.out
  have hA2 := hA.stay ((Below.refl _ w1).alloc (Nat.le_refl _) (.cells #[.pointer (some ⟨p, 0, none⟩), .int .i64 f, .int .i64 1] 102))
  refine ⟨w1.heap.size, f, F1, rfl, hsz, ⟨⟨?_, hA2, by omega, by simp; omega⟩, t4, ?_, ?_, h4⟩⟩
  · rw [cnt_N0]
    exact heap_alloc_new _ _
  · refine tr_new ((t5 f).2 (.inr rfl)) (fun i hi => ?_)
    unfold ent
    rw [t6 i hi]
    exact unpack_zero
  · rw [cnt_N0]
    omega

theorem updC_ne {x page : Nat} {s : Sl} (h : C x ≠ none) : updC C page (some s) x ≠ none := by
  unfold updC
  split
  · simp
  · exact h
theorem tight_set {N' : Nat → Nat → Option Nat} {page : Nat} {s : Sl} (hti : Tight N C) (hch : ∀ l q, (N' l q).isSome = true ↔ (N l q).isSome = true ∨ (l ≤ 3 ∧ q = pre page l)) : Tight N' (updC C page (some s)) := by
  intro l q hl hs
  rcases (hch l q).1 hs with h | ⟨_, rfl⟩
  · obtain ⟨x, hx, hc⟩ := hti l q hl h
    exact ⟨x, hx, updC_ne hc⟩
  · exact ⟨page, rfl, by simp [updC]⟩
/-- Set, where there is room. -/
theorem Rst.set_room (h : Rst w0 w t p bb hb n F root N C) (hw : Wd w0) (hti : Tight N C) (page : Nat) (hp : page < 4096) (s : Sl) (v : Value) (hv : s.enc = v) (hs : may s = true) (hfr : 3 ≤ frees F.held) :
    Calls Tryd.prog 50 #[.pointer (some ⟨t, 0, none⟩), .int .i64 page, v] w fun e w' => e = .returned (.int .i64 0) ∧ Mods [t, p, bb, hb] w w' ∧ ∃ F' N', Rst w0 w' t p bb hb n F' root N' (updC C page (some s)) ∧ Tight N' (updC C page (some s)) ∧ cnt N' ≤ cnt N + 3 := by
  subst hv
  refine (h.set_ok hw page hp s hs).mono ?_
  rintro e w' ⟨a, m, hW, ⟨h1, _, _⟩ | ⟨h1, rfl, hm, F', N', hR, hc, hch⟩⟩
  · have := hW.one
    omega
  · have := hW.one
    exact ⟨rfl, hm, F', N', hR, tight_set hti hch, by omega⟩

/-- Which nodes there are. -/
theorem node_iff {E : Nat → Nat → Sl} {H : Nat → Prop} (tr : Tr E H N C root) (hti : Tight N C) (l q : Nat) (h1 : 1 ≤ l) (h3 : l ≤ 3) : (N l q).isSome = true ↔ ∃ x, C x ≠ none ∧ pre x l = q := by
  constructor
  · intro h
    obtain ⟨x, hx, hc⟩ := hti l q h1 h
    exact ⟨x, hc, hx⟩
  · rintro ⟨x, hc, rfl⟩
    cases hx : C x with
    | none => exact absurd hx hc
    | some s =>
      obtain ⟨f3, e3⟩ := tr.leaf_ne hx
      rw [← pre_three] at e3
      have hup : ∀ l f, l < 3 → N (l + 1) (pre x (l + 1)) = some f → ∃ g, N l (pre x l) = some g := by
        intro l f hl hf
        obtain ⟨g, hg⟩ := tr.up_ne hl hf
        rw [(pre_succ (by omega)).1] at hg
        exact ⟨g, hg⟩
      obtain ⟨f2, e2⟩ := hup 2 _ (by omega) e3
      obtain ⟨f1, e1⟩ := hup 1 _ (by omega) e2
      obtain rfl | rfl | rfl : l = 1 ∨ l = 2 ∨ l = 3 := by omega
      · rw [e1]; rfl
      · rw [e2]; rfl
      · rw [e3]; rfl
theorem cnt_of {E : Nat → Nat → Sl} {H : Nat → Prop} (tr : Tr E H N C root) (P : Nat → Nat → Bool) (h : ∀ l q, 1 ≤ l → l ≤ 3 → (N l q).isSome = P l q) : cnt N = 1 + (List.range 8).countP (P 1) + (List.range 64).countP (P 2) + (List.range 512).countP (P 3) := by
  have h0 : cntL N 0 = 1 := by
    have : (List.range (8 ^ 0)) = [0] := rfl
    unfold cntL
    rw [this]
    simp [tr.top]
  have hl : ∀ l, 1 ≤ l → l ≤ 3 → cntL N l = (List.range (8 ^ l)).countP (P l) := by
    intro l h1 h3
    unfold cntL
    apply List.countP_congr
    intro q _
    rw [h l q h1 h3]
  unfold cnt
  rw [h0, hl 1 (by omega) (by omega), hl 2 (by omega) (by omega), hl 3 (by omega) (by omega)]

def sA : Sl := ⟨true, false, false, false, 9⟩
def sB : Sl := ⟨false, false, false, true, 3⟩
theorem aw7_cnt {E : Nat → Nat → Sl} {H : Nat → Prop} (tr : Tr E H N (updC (updC C0 0 (some sA)) 4095 (some sB)) root) (hti : Tight N (updC (updC C0 0 (some sA)) 4095 (some sB))) : cnt N = 7 := by
  rw [cnt_of tr (fun l q => decide (q = 0) || decide (q = pre 4095 l)) ?_]
  · decide +kernel
  · intro l q h1 h3
    rw [Bool.eq_iff_iff, node_iff tr hti l q h1 h3]
    simp only [Bool.or_eq_true, decide_eq_true_eq]
    constructor
    · rintro ⟨x, hx, rfl⟩
      unfold updC at hx
      by_cases e : x = 4095
      · exact .inr (by rw [e])
      · rw [if_neg e] at hx
        by_cases e0 : x = 0
        · exact .inl (by rw [e0]; simp [pre])
        · rw [if_neg e0] at hx; exact absurd rfl hx
    · rintro (rfl | rfl)
      · exact ⟨0, by simp [updC], by simp [pre]⟩
      · exact ⟨4095, by simp [updC], rfl⟩
theorem aw4_cnt {E : Nat → Nat → Sl} {H : Nat → Prop} (tr : Tr E H N (updC (updC (updC C0 0 (some sA)) 4095 (some sB)) 0 none) root) (hti : Tight N (updC (updC (updC C0 0 (some sA)) 4095 (some sB)) 0 none)) : cnt N = 4 := by
  rw [cnt_of tr (fun l q => decide (q = pre 4095 l)) ?_]
  · decide +kernel
  · intro l q h1 h3
    rw [Bool.eq_iff_iff, node_iff tr hti l q h1 h3]
    simp only [decide_eq_true_eq]
    constructor
    · rintro ⟨x, hx, rfl⟩
      unfold updC at hx
      by_cases e0 : x = 0
      · rw [if_pos e0] at hx; exact absurd rfl hx
      · rw [if_neg e0] at hx
        by_cases e : x = 4095
        · rw [e]
        · rw [if_neg e, if_neg e0] at hx; exact absurd rfl hx
    · rintro rfl
      exact ⟨4095, by simp [updC], rfl⟩
theorem nodes_is (h : Tb w0 w t p bb hb F root k) (x : Int) (hx : k = x) : Calls Tryd.prog 52 #[.pointer (some ⟨t, 0, none⟩)] w fun e w' => e = .returned (.int .i64 x) ∧ w = w' := by
  subst hx
  exact nodes_t h
set_option maxHeartbeats 4000000 in
theorem awake07 (w : World) (hw : Wd w) : Calls Tryd.prog 42 #[] w fun e w' => e = .returned (.bool true) ∧ Below w.heap.size w w' := by
  have HW := Lib.hid hw
  clear hw
  go_enter Tryd.func42, Tryd.ntmps42
  go_wp2_with fail
  refine (new_at (Below.refl _ w) 20 (by decide) (by decide)).mono ?_
  rintro e w1 ⟨p, bb, hb, rfl, hA⟩
  go_wp2_with fail
  refine (new_table (n := 20) hA (by decide) (by decide)).mono ?_
  rintro e w2 ⟨t, root, F1, rfl, ht, hR⟩
  have hfr1 : 3 ≤ frees F1.held := by have := hR.fr; rw [cnt_N0] at this; omega
  have HR := Lib.hid hR
  clear hA hR
  go_wp2_with fail
  refine (HR.out.set_room HW.out (tight0 _) 0 (by decide) sA _ rfl (by decide) hfr1).mono ?_
  rintro e w3 ⟨rfl, _, F2, N2, hR2, hT2, hc2⟩
  have hfr2 : 3 ≤ frees F2.held := by have := hR2.fr; rw [cnt_N0] at hc2; omega
  have HR2 := Lib.hid hR2
  have HT2 := Lib.hid hT2
  clear hR2 hT2 HR hfr1 hc2
  go_wp2_with fail
  refine (HR2.out.set_room HW.out HT2.out 4095 (by decide) sB _ rfl (by decide) hfr2).mono ?_
  rintro e w4 ⟨rfl, _, F3, N3, hR3, hT3, hc3⟩
  have h7 : ((cnt N3 : Nat) : Int) = 7 := by rw [aw7_cnt hR3.tr hT3]; rfl
  have HR3 := Lib.hid hR3
  have HT3 := Lib.hid hT3
  have H7 := Lib.hid h7
  clear hR3 hT3 HR2 HT2 hfr2 hc3 h7
  go_wp2_with fail
  refine (nodes_is HR3.out.tb 7 H7.out).mono ?_
  rintro e w5 ⟨rfl, rfl⟩
  go_wp2_with fail
  refine (HR3.out.drop_some HW.out HT3.out 0 (by decide) true false false false 9 (by decide)).mono ?_
  rintro e w6 ⟨rfl, _, F4, N4, hR4, hT4⟩
  have h4 : ((cnt N4 : Nat) : Int) = 4 := by rw [aw4_cnt hR4.tr hT4]; rfl
  have HR4 := Lib.hid (hR4.tb.alloc (.cells #[.bool true, .bool false, .bool false, .bool false, .int .i64 9] 68))
  have H4 := Lib.hid h4
  have hb6 := hR4.tb.at_.below
  clear hR4 hT4 HR3 HT3 h4 H7
  go_wp2_with fail
  refine (nodes_is HR4.out 4 H4.out).mono ?_
  rintro e w7 ⟨rfl, rfl⟩
  go_wp2_with fail
  go_ret
  exact ⟨rfl, hb6.alloc hb6.size _⟩
end
end Go.Proofs.YtacpfkimjaihgaaDoor
