/- radix: the program's table beside the document's, call by call. No conditions. -/
import Derived.Test.YtacpfkimjaihgaaDoorRLastLib
import Derived.Test.YtacpfkimjaihgaaDoorRFullWalk
import Derived.Test.YtacpfkimjaihgaaDoorRDoc
import Derived.Test.YtacpfkimjaihgaaDoorRNone
namespace Go.Proofs.YtacpfkimjaihgaaDoor
open Go.RowKit
set_option linter.unusedVariables false

/-! ## What calls tell, plain -/
def outR (k : Int) : Prop := k < 0 ∨ 4096 ≤ k
instance (k : Int) : Decidable (outR k) := inferInstanceAs (Decidable (_ ∨ _))
def setP (many : Nat) (C : Nat → Option Sl) (k : Int) (s : Sl) : Int × (Nat → Option Sl) :=
  if outR k then (14, C) else if may s = false then (1, C)
  else if (many : Int) - (nodesL (pages C) : Int) < (nodesL (pages (updC C k.toNat (some s))) : Int) - (nodesL (pages C) : Int) then (18, C) else (0, updC C k.toNat (some s))
def getP (C : Nat → Option Sl) (k : Int) : Sl × Int := if outR k then (.zero, 14) else getV C k.toNat
def dropP (C : Nat → Option Sl) (k : Int) : Nat → Option Sl := if outR k then C else updC C k.toNat none

structure Op8 where
  kind : Int
  page : Int
  inn : Bool
  s : Sl
def Op8.cells (o : Op8) : List Value := [.int .i64 o.kind, .int .i64 o.page, .bool o.inn, .bool o.s.here, .bool o.s.write, .bool o.s.copy, .bool o.s.out, .int .i64 o.s.n]
/-- The page that is meant. -/
def Op8.pg (o : Op8) : Int := if o.inn then o.page % 4096 else o.page

structure Lay (w0 : World) (t p bb hb r B0 : Nat) : Prop where
  lt : t < B0 ∧ p < B0 ∧ bb < B0 ∧ hb < B0 ∧ r < B0
  w : w0.heap.size ≤ B0 ∧ w0.heap.size ≤ r
  ne : r ≠ t ∧ r ≠ p ∧ r ≠ bb ∧ r ≠ hb
structure PY (w0 w : World) (t p bb hb many B0 root r : Nat) (C1 C2 : Nat → Option Sl) (a : Option Addr) (c : Nat) : Prop where
  tab : ∃ F N, Rst w0 w t p bb hb many F root N C1 ∧ Tight N C1
  rt : RT w r B0 (pages C2) a c
  lay : Lay w0 t p bb hb r B0
  size : B0 ≤ w.heap.size
section
variable {w0 w w' : World} {t p bb hb many B0 root r : Nat} {C1 C2 C' : Nat → Option Sl} {a : Option Addr} {c : Nat}
theorem PY.stay (h : PY w0 w t p bb hb many B0 root r C1 C2 a c) (hb' : Below w.heap.size w w') : PY w0 w' t p bb hb many B0 root r C1 C2 a c := by
  obtain ⟨F, N, hR, hT⟩ := h.tab
  exact ⟨⟨F, N, hR.stay hb', hT⟩, h.rt.stay hb', h.lay, Nat.le_trans h.size hb'.size⟩
theorem PY.drew (h : PY w0 w t p bb hb many B0 root r C1 C2 a c) : PY w0 w.drew t p bb hb many B0 root r C1 C2 a c := h.stay (Below.refl _ _).drew
theorem PY.below (h : PY w0 w t p bb hb many B0 root r C1 C2 a c) : Below w0.heap.size w0 w := by
  obtain ⟨F, N, hR, hT⟩ := h.tab
  exact hR.tb.at_.below
theorem PY.mods_t (h : PY w0 w t p bb hb many B0 root r C1 C2 a c) (hm : Mods [t, p, bb, hb] w w') {F : FP} {N : Nat → Nat → Option Nat} (hR : Rst w0 w' t p bb hb many F root N C') (hT : Tight N C') : PY w0 w' t p bb hb many B0 root r C' C2 a c :=
  ⟨⟨F, N, hR, hT⟩, h.rt.mods hm (by have := h.lay.ne; simp; omega) (by have := h.lay.lt; simp; omega), h.lay, Nat.le_trans h.size hm.size⟩
theorem PY.mods_r (h : PY w0 w t p bb hb many B0 root r C1 C2 a c) (hm : Mods [r] w w') {a' : Option Addr} {c' : Nat} (hR : RT w' r B0 (pages C') a' c') : PY w0 w' t p bb hb many B0 root r C1 C' a' c' := by
  obtain ⟨F, N, hS, hT⟩ := h.tab
  refine ⟨⟨F, N, hS.mods hm ?_, hT⟩, hR, h.lay, Nat.le_trans h.size hm.size⟩
  have h1 := h.lay.ne
  have h2 := h.lay.w
  intro k hk
  simp at hk
  subst hk
  refine ⟨h2.2, h1.1, ?_⟩
  simp
  omega
theorem PY.few (h : PY w0 w t p bb hb many B0 root r C1 C2 a c) : nodesL (pages C1) ≤ many ∧ many ≤ 4096 := by
  obtain ⟨F, N, hR, hT⟩ := h.tab
  have := hR.fr
  rw [cnt_nodes hR.tr hT] at this
  exact ⟨by omega, hR.n4⟩
theorem toNat_in {k : Int} (h : ¬ outR k) : ∃ q : Nat, k = (q : Int) ∧ q < 4096 ∧ k.toNat = q := by
  unfold outR at h
  exact ⟨k.toNat, by omega, by omega, rfl⟩
theorem PY.set_t (h : PY w0 w t p bb hb many B0 root r C1 C2 a c) (hw : Wd w0) (k : Int) (s : Sl) (v : Value) (hv : s.enc = v) (x : Int) (hx : setP many C1 k s = (x, C')) :
    Calls Tryd.prog 50 #[.pointer (some ⟨t, 0, none⟩), .int .i64 k, v] w fun e w' => e = .returned (.int .i64 x) ∧ Mods [t, p, bb, hb] w w' ∧ PY w0 w' t p bb hb many B0 root r C' C2 a c := by
  subst hv
  obtain ⟨F, N, hR, hT⟩ := h.tab
  unfold setP at hx
  by_cases ho : outR k
  · rw [if_pos ho] at hx
    injection hx with h1 h2
    subst h1 h2
    refine (set_range w t k ho s).mono ?_
    rintro e w' ⟨rfl, hb'⟩
    exact ⟨rfl, Mods.of_below hb', h.stay hb'⟩
  · rw [if_neg ho] at hx
    obtain ⟨q, rfl, hq, hqn⟩ := toNat_in ho
    rw [hqn] at hx
    by_cases hm : may s = false
    · rw [if_pos hm] at hx
      injection hx with h1 h2
      subst h1 h2
      refine (hR.set_arg q hq s hm).mono ?_
      rintro e w' ⟨rfl, hb'⟩
      exact ⟨rfl, Mods.of_below hb', h.stay hb'⟩
    · rw [if_neg hm] at hx
      have hm' : may s = true := by cases hms : may s with
        | true => rfl
        | false => exact absurd hms hm
      refine (hR.set_any hw hT q hq s _ rfl hm').mono ?_
      rintro e w' ⟨aw, m, hW, hcase⟩
      have hn := nodes_set hR.tr hT hW hq s
      have hfr := hR.fr
      have hm4 := hW.four
      rw [cnt_nodes hR.tr hT] at hfr
      rcases hcase with ⟨h1, rfl, hR', hm2⟩ | ⟨h1, rfl, hm2, F', N', hR', hT', hc⟩
      · rw [if_pos (by omega)] at hx
        injection hx with h1 h2
        subst h1 h2
        exact ⟨rfl, hm2, h.mods_t hm2 hR' hT⟩
      · rw [if_neg (by omega)] at hx
        injection hx with h1 h2
        subst h1 h2
        exact ⟨rfl, hm2, h.mods_t hm2 hR' hT'⟩
theorem PY.set_r (h : PY w0 w t p bb hb many B0 root r C1 C2 a c) (k : Int) (s : Sl) (v : Value) (hv : s.enc = v) (x : Int) (hx : setP many C2 k s = (x, C')) (hle : nodesL (pages C2) ≤ many) (fr : Int) (hfr : (many : Int) - (nodesL (pages C2) : Int) = fr) :
    Calls Tryd.prog 60 #[.pointer (some ⟨r, 0, none⟩), .int .i64 k, v, .int .i64 fr] w fun e w' => e = .returned (.int .i64 x) ∧ Mods [r] w w' ∧ ∃ a' c', PY w0 w' t p bb hb many B0 root r C1 C' a' c' := by
  subst hv
  have hmany := h.few.2
  unfold setP at hx
  by_cases ho : outR k
  · rw [if_pos ho] at hx
    injection hx with h1 h2
    subst h1 h2
    refine (rset_range w r k ho s _ rfl fr).mono ?_
    rintro e w' ⟨rfl, hb'⟩
    exact ⟨rfl, Mods.of_below hb', a, c, h.stay hb'⟩
  · rw [if_neg ho] at hx
    obtain ⟨q, rfl, hq, hqn⟩ := toNat_in ho
    rw [hqn] at hx
    by_cases hm : may s = false
    · rw [if_pos hm] at hx
      injection hx with h1 h2
      subst h1 h2
      refine (rset_arg w r q hq s _ rfl hm fr).mono ?_
      rintro e w' ⟨rfl, hb'⟩
      exact ⟨rfl, Mods.of_below hb', a, c, h.stay hb'⟩
    · rw [if_neg hm, hfr] at hx
      have hm' : may s = true := by cases hms : may s with
        | true => rfl
        | false => exact absurd hms hm
      refine (rset_any h.rt h.size h.lay.lt.2.2.2.2 q hq s _ rfl hm' fr (by omega) (by omega)).mono ?_
      rintro e w' ⟨hm2, ⟨h1, rfl, a', c', hR⟩ | ⟨h1, rfl, a', c', hR⟩⟩
      · rw [if_pos h1] at hx
        injection hx with h1 h2
        subst h1 h2
        exact ⟨rfl, hm2, a', c', h.mods_r hm2 hR⟩
      · rw [if_neg (by omega)] at hx
        injection hx with h1 h2
        subst h1 h2
        exact ⟨rfl, hm2, a', c', h.mods_r hm2 hR⟩
theorem PY.get_t (h : PY w0 w t p bb hb many B0 root r C1 C2 a c) (hw : Wd w0) (k : Int) (q : Sl × Int) (hx : getP C1 k = q) :
    Calls Tryd.prog 55 #[.pointer (some ⟨t, 0, none⟩), .int .i64 k] w fun e w' => e = .returned (.tuple #[q.1.enc, .int .i64 q.2]) ∧ Below w.heap.size w w' := by
  subst hx
  obtain ⟨F, N, hR, hT⟩ := h.tab
  unfold getP
  by_cases ho : outR k
  · rw [if_pos ho]
    exact get_err w (some ⟨t, 0, none⟩) k 14 (by omega) (fun W _ => asked_range W t k ho)
  · rw [if_neg ho]
    obtain ⟨q, rfl, hq, hqn⟩ := toNat_in ho
    rw [hqn]
    exact hR.get hw q hq
theorem PY.get_r (h : PY w0 w t p bb hb many B0 root r C1 C2 a c) (k : Int) (q : Sl × Int) (hx : getP C2 k = q) :
    Calls Tryd.prog 59 #[.pointer (some ⟨r, 0, none⟩), .int .i64 k] w fun e w' => e = .returned (.tuple #[q.1.enc, .int .i64 q.2]) ∧ Below w.heap.size w w' := by
  subst hx
  unfold getP
  by_cases ho : outR k
  · rw [if_pos ho]
    exact rget_range w r k ho
  · rw [if_neg ho]
    obtain ⟨q, rfl, hq, hqn⟩ := toNat_in ho
    rw [hqn]
    exact rget_any h.rt q hq
theorem PY.drop_t (h : PY w0 w t p bb hb many B0 root r C1 C2 a c) (hw : Wd w0) (k : Int) (q : Sl × Int) (hx : getP C1 k = q) (hC : dropP C1 k = C') :
    Calls Tryd.prog 54 #[.pointer (some ⟨t, 0, none⟩), .int .i64 k] w fun e w' => e = .returned (.tuple #[q.1.enc, .int .i64 q.2]) ∧ Mods [t, p, bb, hb] w w' ∧ PY w0 w' t p bb hb many B0 root r C' C2 a c := by
  subst hx hC
  obtain ⟨F, N, hR, hT⟩ := h.tab
  unfold getP dropP
  by_cases ho : outR k
  · rw [if_pos ho, if_pos ho]
    refine (drop_err w (some ⟨t, 0, none⟩) k 14 (by omega) (fun W _ => asked_range W t k ho)).mono ?_
    rintro e w' ⟨rfl, hb'⟩
    exact ⟨rfl, Mods.of_below hb', h.stay hb'⟩
  · rw [if_neg ho, if_neg ho]
    obtain ⟨q, rfl, hq, hqn⟩ := toNat_in ho
    rw [hqn]
    cases hc : C1 q with
    | none =>
      rw [getV_none hc, updC_same hc]
      refine (hR.drop_none hw q hq hc).mono ?_
      rintro e w' ⟨rfl, hb'⟩
      exact ⟨rfl, Mods.of_below hb', h.stay hb'⟩
    | some s =>
      obtain ⟨q1, q2, q3, q4, q5⟩ := s
      rw [getV_some hc]
      refine (hR.drop_some hw hT q hq q1 q2 q3 q4 q5 hc).mono ?_
      rintro e w' ⟨rfl, hm, F', N', hR', hT'⟩
      exact ⟨rfl, hm, h.mods_t hm hR' hT'⟩
theorem PY.drop_r (h : PY w0 w t p bb hb many B0 root r C1 C2 a c) (k : Int) (q : Sl × Int) (hx : getP C2 k = q) (hC : dropP C2 k = C') :
    Calls Tryd.prog 58 #[.pointer (some ⟨r, 0, none⟩), .int .i64 k] w fun e w' => e = .returned (.tuple #[q.1.enc, .int .i64 q.2]) ∧ Mods [r] w w' ∧ ∃ a' c', PY w0 w' t p bb hb many B0 root r C1 C' a' c' := by
  subst hx hC
  unfold getP dropP
  by_cases ho : outR k
  · rw [if_pos ho, if_pos ho]
    refine (rdrop_range w r k ho).mono ?_
    rintro e w' ⟨rfl, hb'⟩
    exact ⟨rfl, Mods.of_below hb', a, c, h.stay hb'⟩
  · rw [if_neg ho, if_neg ho]
    obtain ⟨q, rfl, hq, hqn⟩ := toNat_in ho
    rw [hqn]
    refine (rdrop_any h.rt h.size h.lay.lt.2.2.2.2 q hq).mono ?_
    rintro e w' ⟨rfl, hm, a', c', hR⟩
    exact ⟨rfl, hm, a', c', h.mods_r hm hR⟩
theorem PY.nodes_r (h : PY w0 w t p bb hb many B0 root r C1 C2 a c) (n x : Nat) (hn : (pages C2).length = n) (hx : nodesL (pages C2) = x) :
    Calls Tryd.prog 61 #[.slice a n c] w fun e w' => e = .returned (.int .i64 (x : Int)) ∧ Below w.heap.size w w' := by
  subst hx
  refine rnodes_any w B0 n c a C2 hn ?_
  rw [← hn]
  exact h.rt.sp
theorem PY.nodes_t (h : PY w0 w t p bb hb many B0 root r C1 C2 a c) (x : Nat) (hx : nodesL (pages C1) = x) :
    Calls Tryd.prog 52 #[.pointer (some ⟨t, 0, none⟩)] w fun e w' => e = .returned (.int .i64 (x : Int)) ∧ w = w' := by
  obtain ⟨F, N, hR, hT⟩ := h.tab
  exact nodes_is hR.tb x (by rw [cnt_nodes hR.tr hT, hx])
theorem PY.free_t (h : PY w0 w t p bb hb many B0 root r C1 C2 a c) (x : Nat) (hx : nodesL (pages C1) = x) :
    Calls Tryd.prog 31 #[.pointer (some ⟨p, 0, none⟩)] w fun e w' => e = .returned (.int .i64 ((many : Int) - x)) ∧ w = w' := by
  obtain ⟨F, N, hR, hT⟩ := h.tab
  refine free_is hR _ ?_
  have := hR.fr
  rw [cnt_nodes hR.tr hT, hx] at this
  omega
theorem PY.c0 (h : PY w0 w t p bb hb many B0 root r C1 C2 a c) (n : Nat) (hn : (pages C2).length = n) : w.cell? ⟨r, 0, none⟩ = some (.slice a n c) := by rw [← hn]; exact h.rt.c0
theorem PY.lr (h : PY w0 w t p bb hb many B0 root r C1 C2 a c) : r < w.heap.size := h.rt.lt
end
end Go.Proofs.YtacpfkimjaihgaaDoor
