/- Package frames: the program's pool beside the document's, and one call's own struct; what []Op reads as. No conditions. -/
import Derived.Test.YtacpfkimjaihgaaDoorRPool4
import Derived.Test.YtacpfkimjaihgaaDoorFOpen
namespace Go.Proofs.YtacpfkimjaihgaaDoor
open Go.RowKit
set_option linter.unusedVariables false
section
open Go.ChangeShapes Go.WideShapes Go.ChangeAt Go.RowKit Go.Deep
theorem list_choose {α : Type} {P : Nat → α → Prop} : ∀ n, (∀ i, i < n → ∃ o, P i o) → ∃ L : List α, L.length = n ∧ ∀ i (hi : i < L.length), P i L[i] := by
  intro n
  induction n with
  | zero => intro _; exact ⟨[], rfl, fun i hi => absurd hi (by simp)⟩
  | succ n ih =>
    intro h
    obtain ⟨L, hl, hp⟩ := ih (fun i hi => h i (by omega))
    obtain ⟨o, ho⟩ := h n (by omega)
    refine ⟨L ++ [o], by simp [hl], fun i hi => ?_⟩
    simp [hl] at hi
    by_cases e : i < n
    · rw [List.getElem_append_left (by omega)]
      exact hp i (by omega)
    · have e2 : i = n := by omega
      subst e2
      rw [List.getElem_append_right (by omega)]
      simpa [hl] using ho
structure Op6 where
  kind : Int
  frame : Int
  at_ : Int
  word : Int
  bits : Int
  s : ByteArray
  short : Bool
def Op6.cells (o : Op6) : List Value := [.int .i64 o.kind, .int .i64 o.frame, .int .i64 o.at_, .int .i64 o.word, .int .u64 o.bits, .string o.s, .bool o.short]
def Ops6At (w : World) (a : Option Addr) (L : List Op6) : Prop :=
  ∀ i (h : i < L.length), (0 ≤ L[i].bits ∧ L[i].bits < 18446744073709551616 ∧ L[i].s.size ≤ maxLen) ∧ ∃ b off, a = some ⟨b, off, none⟩ ∧ ∀ j v, L[i].cells[j]? = some v → w.cell? ⟨b, off + i * 7 + j, none⟩ = some v
section
variable {H : Type} {enc : TypeId × Value → H} {w : World} {base : Nat} {spare : Nat → Bool} {held : Bool}
theorem open_ops6 {fuel : Nat} {a : Option Addr} {len cap : Nat} {x : DataW H × List MemPlace} (h : DataW.trod enc Tryd.prog w base spare held fuel 54 [.slice a len cap] = some x) :
    len ≤ cap ∧ cap ≤ maxLen ∧ ∃ L : List Op6, L.length = len ∧ Ops6At w a L := by
  rcases open_slice_fields Tryd.underlying54 Tryd.underlying58 (by kernel_rfl) (by kernel_rfl) h with ⟨hcs, _⟩ | ⟨b, l, c, m, D, Pl, hcs, _, hl, hm, hmm, _, hi⟩
  · simp at hcs
    obtain ⟨rfl, rfl, rfl⟩ := hcs
    exact ⟨by omega, by simp [maxLen], [], rfl, fun i hi => absurd hi (by simp)⟩
  · simp at hcs
    obtain ⟨rfl, rfl, rfl⟩ := hcs
    have hlm : len ≤ m := by rw [hmm]; split <;> omega
    have hc : ∀ i, i < len → ∃ o : Op6, (0 ≤ o.bits ∧ o.bits < 18446744073709551616 ∧ o.s.size ≤ maxLen) ∧ ∀ j v, o.cells[j]? = some v → w.cell? (b.add (i * 7 + j)) = some v := by
      intro i hil
      obtain ⟨ys, n, _, _, hys, hf⟩ := hi i (by omega)
      obtain ⟨v0, y0, c0, _, t0⟩ := hf 0 _ rfl
      obtain ⟨v1, y1, c1, _, t1⟩ := hf 1 _ rfl
      obtain ⟨v2, y2, c2, _, t2⟩ := hf 2 _ rfl
      obtain ⟨v3, y3, c3, _, t3⟩ := hf 3 _ rfl
      obtain ⟨v4, y4, c4, _, t4⟩ := hf 4 _ rfl
      obtain ⟨v5, y5, c5, _, t5⟩ := hf 5 _ rfl
      obtain ⟨v6, y6, c6, _, t6⟩ := hf 6 _ rfl
      obtain ⟨n0, e0, _, _⟩ := DataW.trod_int Tryd.underlying3 t0
      obtain ⟨n1, e1, _, _⟩ := DataW.trod_int Tryd.underlying3 t1
      obtain ⟨n2, e2, _, _⟩ := DataW.trod_int Tryd.underlying3 t2
      obtain ⟨n3, e3, _, _⟩ := DataW.trod_int Tryd.underlying3 t3
      obtain ⟨n4, e4, _, w4⟩ := DataW.trod_int Tryd.underlying26 t4
      obtain ⟨n5, e5, _, w5⟩ := DataW.trod_string Tryd.underlying9 t5
      obtain ⟨n6, e6, _⟩ := DataW.trod_bool Tryd.underlying4 t6
      simp only [List.cons.injEq, and_true] at e0 e1 e2 e3 e4 e5 e6
      subst e0 e1 e2 e3 e4 e5 e6
      have hb := u64_of_wf w4
      refine ⟨⟨n0, n1, n2, n3, n4, n5, n6⟩, ⟨hb.1, hb.2, w5⟩, fun j v hj => ?_⟩
      match j, hj with
      | 0, hj => simp [Op6.cells] at hj; subst hj; exact c0
      | 1, hj => simp [Op6.cells] at hj; subst hj; exact c1
      | 2, hj => simp [Op6.cells] at hj; subst hj; exact c2
      | 3, hj => simp [Op6.cells] at hj; subst hj; exact c3
      | 4, hj => simp [Op6.cells] at hj; subst hj; exact c4
      | 5, hj => simp [Op6.cells] at hj; subst hj; exact c5
      | 6, hj => simp [Op6.cells] at hj; subst hj; exact c6
      | j + 7, hj => simp [Op6.cells] at hj
    obtain ⟨L, hL, hP⟩ := list_choose len hc
    refine ⟨hl, hm, L, hL, fun i hi => ?_⟩
    have hs := hP i hi
    have hs0 := hP 0 (by omega)
    obtain ⟨bb, off, spot⟩ := b
    have hsp : spot = none := by simpa [Addr.add] using World.cell?_spot (hs0.2 0 _ rfl)
    subst hsp
    have hadd : ∀ j, (⟨bb, off, none⟩ : Addr).add (i * 7 + j) = ⟨bb, off + i * 7 + j, none⟩ := by
      intro j
      unfold Addr.add
      split <;> simp_all <;> omega
    simp only [hadd] at hs
    exact ⟨hs.1, bb, off, rfl, hs.2⟩
end
end

/-- No frame was held more than so often; so many frames. -/
def Kept (F : FP) (n t : Nat) : Prop := F.held.length = n ∧ ∀ v ∈ F.held, 0 ≤ v ∧ v ≤ (t : Int)
section
variable {F : FP} {n t : Nat}
theorem kept_set_le {H : List Int} {k : Nat} {v b : Int} (hv : 0 ≤ v ∧ v ≤ b) (h : ∀ x ∈ H, 0 ≤ x ∧ x ≤ b) : ∀ x ∈ H.set k v, 0 ≤ x ∧ x ≤ b := fun x hx => by
  rcases List.mem_or_eq_of_mem_set hx with hx | rfl
  · exact h x hx
  · exact hv
theorem Kept.few (h : Kept F n t) (ht : t ≤ 1000) : Few F.held := fun v hv => by have := h.2 v hv; omega
theorem Kept.later (h : Kept F n t) : Kept F n (t + 1) := ⟨h.1, fun v hv => by have := h.2 v hv; omega⟩
theorem Kept.later' (h : Kept F n t) : ∀ v ∈ F.held, 0 ≤ v ∧ v ≤ ((t + 1 : Nat) : Int) := h.later.2
theorem kept_new (n : Nat) : Kept (newFP n) n 0 := ⟨by simp [newFP], fun v hv => by simp [newFP] at hv; omega⟩
theorem Kept.take (h : Kept F n t) : Kept F.take.2.2 n (t + 1) := by
  rw [FP.take]
  split
  · exact ⟨by simpa using h.1, kept_set_le (by omega) h.later'⟩
  · exact h.later
theorem Kept.hold (h : Kept F n t) (f : Int) : Kept (F.hold f) n (t + 1) := by
  rw [FP.hold]
  split
  · rename_i ha
    obtain ⟨k, rfl, hk, hz⟩ := asked_ok ha
    rw [heldAt_nat hk]
    have := h.2 _ (List.getElem_mem hk)
    exact ⟨by simpa using h.1, kept_set_le (by omega) h.later'⟩
  · exact h.later
theorem Kept.drop (h : Kept F n t) (f : Int) : Kept (F.drop f) n (t + 1) := by
  rw [FP.drop]
  split
  · rename_i ha
    obtain ⟨k, rfl, hk, hz⟩ := asked_ok ha
    rw [heldAt_nat hk]
    have := h.2 _ (List.getElem_mem hk)
    exact ⟨by simpa using h.1, kept_set_le (by omega) h.later'⟩
  · exact h.later
theorem Kept.fill (h : Kept F n t) (f : Int) (s : ByteArray) : Kept (F.fill f s) n (t + 1) := by
  rw [FP.fill]
  split
  · exact h.later
  · exact h.later
theorem Kept.store (h : Kept F n t) (f a k x : Int) : Kept (F.store f a k x) n (t + 1) := by
  rw [FP.store]
  split
  · exact h.later
  · exact h.later
theorem Kept.copy (h : Kept F n t) (f : Int) : Kept (F.copy f).2.2 n (t + 1) := by
  rw [FP.copy]
  split
  · split
    · exact ⟨by simpa using h.1, kept_set_le (by omega) h.later'⟩
    · exact h.later
  · exact h.later
end

/-- The program's pool at F, the document's at G, and a struct of the law's own. -/
structure Both (w0 w : World) (p bb hb r h2 sb : Nat) (F G : FP) : Prop where
  at_ : At w0 w p bb hb F
  doc : DocP w r h2 sb G
  hr : w0.heap.size ≤ r ∧ w0.heap.size ≤ h2 ∧ w0.heap.size ≤ sb
  n1 : r ∉ [p, bb, hb] ∧ h2 ∉ [p, bb, hb] ∧ sb ∉ [p, bb, hb]
  n2 : p ∉ [r, h2, sb] ∧ bb ∉ [r, h2, sb] ∧ hb ∉ [r, h2, sb]
structure BothB (w0 w : World) (p bb hb r h2 sb : Nat) (F G : FP) (ob : Nat) (cs : List Value) : Prop where
  both : Both w0 w p bb hb r h2 sb F G
  box : w.heap[ob]? = some (.cells cs.toArray 58 (0, 0))
  o1 : ob ∉ [p, bb, hb]
  o2 : ob ∉ [r, h2, sb]
section
variable {w0 w w' : World} {p bb hb r h2 sb ob : Nat} {F G F' G' : FP} {cs : List Value}
theorem Both.stepP (h : Both w0 w p bb hb r h2 sb F G) (hp' : IsPool w' p bb hb F') (hm : Mods [p, bb, hb] w w') : Both w0 w' p bb hb r h2 sb F' G :=
  ⟨h.at_.step hp' hm, h.doc.mods hm h.n1.1 h.n1.2.1 h.n1.2.2, h.hr, h.n1, h.n2⟩
theorem Both.stepD (h : Both w0 w p bb hb r h2 sb F G) (hd : DocP w' r h2 sb G') (hm : Mods [r, h2, sb] w w') : Both w0 w' p bb hb r h2 sb F G' :=
  ⟨⟨PA.mods h.at_.pool hm h.n2.1 h.n2.2.1 h.n2.2.2, below_after h.at_.below hm h.at_.below.size (by have := h.hr; intro i hi; simp at hi; omega), h.at_.hp, h.at_.hbb, h.at_.hhb⟩, hd, h.hr, h.n1, h.n2⟩
theorem Both.stay (h : Both w0 w p bb hb r h2 sb F G) (hb' : Below w.heap.size w w') : Both w0 w' p bb hb r h2 sb F G :=
  ⟨h.at_.stay hb', h.doc.below hb' (Nat.le_refl _), h.hr, h.n1, h.n2⟩
theorem BothB.stepP (h : BothB w0 w p bb hb r h2 sb F G ob cs) (hp' : IsPool w' p bb hb F') (hm : Mods [p, bb, hb] w w') : BothB w0 w' p bb hb r h2 sb F' G ob cs :=
  ⟨h.both.stepP hp' hm, (hm.block ob (lt_of_block h.box) h.o1).trans h.box, h.o1, h.o2⟩
theorem BothB.stepD (h : BothB w0 w p bb hb r h2 sb F G ob cs) (hd : DocP w' r h2 sb G') (hm : Mods [r, h2, sb] w w') : BothB w0 w' p bb hb r h2 sb F G' ob cs :=
  ⟨h.both.stepD hd hm, (hm.block ob (lt_of_block h.box) h.o2).trans h.box, h.o1, h.o2⟩
theorem BothB.stay (h : BothB w0 w p bb hb r h2 sb F G ob cs) (hb' : Below w.heap.size w w') : BothB w0 w' p bb hb r h2 sb F G ob cs :=
  ⟨h.both.stay hb', (hb'.block ob (lt_of_block h.box)).trans h.box, h.o1, h.o2⟩
theorem BothB.drew (h : BothB w0 w p bb hb r h2 sb F G ob cs) : BothB w0 w.drew p bb hb r h2 sb F G ob cs := h.stay (Below.refl _ _).drew
theorem BothB.drewN (h : BothB w0 w p bb hb r h2 sb F G ob cs) (n : Nat) : BothB w0 (w.drewN n) p bb hb r h2 sb F G ob cs := h.stay (below_drewN (Below.refl _ _) n)
theorem BothB.cell (h : BothB w0 w p bb hb r h2 sb F G ob cs) {k : Nat} {v : Value} (hk : cs[k]? = some v) : w.cell? ⟨ob, k, none⟩ = some v := by
  rw [cell_of_row w _ _ _ _ _ h.box]
  simpa using hk
theorem Both.make (h : Both w0 w p bb hb r h2 sb F G) (cs : List Value) : BothB w0 (w.alloc (.cells cs.toArray 58)) p bb hb r h2 sb F G w.heap.size cs := by
  obtain ⟨l1, l2, l3⟩ := h.at_.pool.lt
  obtain ⟨m1, m2, m3⟩ := h.doc.lt
  exact ⟨h.stay (below1 w _), heap_alloc_new w _, by simp; omega, by simp; omega⟩
theorem BothB.take (h : BothB w0 w p bb hb r h2 sb F G ob cs) : Calls Tryd.prog 19 #[.pointer (some ⟨p, 0, none⟩)] w fun e w' => e = .returned (.tuple #[.int .i64 F.take.1, .int .i64 F.take.2.1]) ∧ BothB w0 w' p bb hb r h2 sb F.take.2.2 G ob cs :=
  (take_any w p bb hb F  h.both.at_.pool).mono fun _ _ ⟨he, hp, hm⟩ => ⟨he, h.stepP hp hm⟩
theorem BothB.hold (h : BothB w0 w p bb hb r h2 sb F G ob cs) (f : Int) (hB : Few F.held) : Calls Tryd.prog 28 #[.pointer (some ⟨p, 0, none⟩), .int .i64 f] w fun e w' => e = .returned (.int .i64 (asked F.held f)) ∧ BothB w0 w' p bb hb r h2 sb (F.hold f) G ob cs :=
  (hold_any w p bb hb F f hB h.both.at_.pool).mono fun _ _ ⟨he, hp, hm⟩ => ⟨he, h.stepP hp hm⟩
theorem BothB.drop (h : BothB w0 w p bb hb r h2 sb F G ob cs) (f : Int) (hB : Few F.held) : Calls Tryd.prog 29 #[.pointer (some ⟨p, 0, none⟩), .int .i64 f] w fun e w' => e = .returned (.int .i64 (asked F.held f)) ∧ BothB w0 w' p bb hb r h2 sb (F.drop f) G ob cs :=
  (drop_any w p bb hb F f hB h.both.at_.pool).mono fun _ _ ⟨he, hp, hm⟩ => ⟨he, h.stepP hp hm⟩
theorem BothB.bytes (h : BothB w0 w p bb hb r h2 sb F G ob cs) (f : Int) : Calls Tryd.prog 26 #[.pointer (some ⟨p, 0, none⟩), .int .i64 f] w fun e w' => e = .returned (.tuple #[.string (F.bytes f), .int .i64 (asked F.held f)]) ∧ BothB w0 w' p bb hb r h2 sb F G ob cs :=
  (fbytes_any w p bb hb F f h.both.at_.pool).mono fun _ _ ⟨he, hb'⟩ => ⟨he, h.stay hb'⟩
theorem BothB.fill (h : BothB w0 w p bb hb r h2 sb F G ob cs) (f : Int) (s : ByteArray) : Calls Tryd.prog 25 #[.pointer (some ⟨p, 0, none⟩), .int .i64 f, .string s] w fun e w' => e = .returned (.int .i64 (F.fillE f s)) ∧ BothB w0 w' p bb hb r h2 sb (F.fill f s) G ob cs :=
  (fill_any w p bb hb F f s h.both.at_.pool).mono fun _ _ ⟨he, hp, hm⟩ => ⟨he, h.stepP hp hm⟩
theorem BothB.copy (h : BothB w0 w p bb hb r h2 sb F G ob cs) (f : Int) : Calls Tryd.prog 20 #[.pointer (some ⟨p, 0, none⟩), .int .i64 f] w fun e w' => e = .returned (.tuple #[.int .i64 (F.copy f).1, .int .i64 (F.copy f).2.1]) ∧ BothB w0 w' p bb hb r h2 sb (F.copy f).2.2 G ob cs :=
  (copy_any w p bb hb F f h.both.at_.pool).mono fun _ _ ⟨he, hp, hm⟩ => ⟨he, h.stepP hp hm⟩
theorem BothB.load (h : BothB w0 w p bb hb r h2 sb F G ob cs) (hw : Wd w0) (f a kind : Int) : Calls Tryd.prog 22 #[.pointer (some ⟨p, 0, none⟩), .int .i64 f, .int .i64 a, .int .i64 kind] w fun e w' => e = .returned (.tuple #[.int .u64 (F.load f a kind), .int .i64 (F.loadE f a kind)]) ∧ BothB w0 w' p bb hb r h2 sb F G ob cs :=
  (load_any w p bb hb F f a kind (h.both.at_.wd hw) h.both.at_.pool).mono fun _ _ ⟨he, hb'⟩ => ⟨he, h.stay hb'⟩
theorem BothB.store (h : BothB w0 w p bb hb r h2 sb F G ob cs) (hw : Wd w0) (f a kind x : Int) (hx0 : 0 ≤ x) (hx1 : x < 18446744073709551616) : Calls Tryd.prog 21 #[.pointer (some ⟨p, 0, none⟩), .int .i64 f, .int .i64 a, .int .i64 kind, .int .u64 x] w fun e w' => e = .returned (.int .i64 (F.loadE f a kind)) ∧ BothB w0 w' p bb hb r h2 sb (F.store f a kind x) G ob cs :=
  (store_any w p bb hb F f a kind x (h.both.at_.wd hw) hx0 hx1 h.both.at_.pool).mono fun _ _ ⟨he, hp, hm⟩ => ⟨he, h.stepP hp hm⟩
theorem BothB.dtake (h : BothB w0 w p bb hb r h2 sb F G ob cs) : Calls Tryd.prog 34 #[.pointer (some ⟨r, 0, none⟩)] w fun e w' => e = .returned (.tuple #[.int .i64 G.take.1, .int .i64 G.take.2.1]) ∧ BothB w0 w' p bb hb r h2 sb F G.take.2.2 ob cs :=
  (d_take h.both.doc ).mono fun _ _ ⟨he, hp, hm⟩ => ⟨he, h.stepD hp hm⟩
theorem BothB.dhold (h : BothB w0 w p bb hb r h2 sb F G ob cs) (f : Int) (hB : Few G.held) : Calls Tryd.prog 35 #[.pointer (some ⟨r, 0, none⟩), .int .i64 f, .int .i64 1] w fun e w' => e = .returned (.int .i64 (asked G.held f)) ∧ BothB w0 w' p bb hb r h2 sb F (G.hold f) ob cs :=
  (d_hold h.both.doc f hB).mono fun _ _ ⟨he, hp, hm⟩ => ⟨he, h.stepD hp hm⟩
theorem BothB.ddrop (h : BothB w0 w p bb hb r h2 sb F G ob cs) (f : Int) (hB : Few G.held) : Calls Tryd.prog 35 #[.pointer (some ⟨r, 0, none⟩), .int .i64 f, .int .i64 (-1)] w fun e w' => e = .returned (.int .i64 (asked G.held f)) ∧ BothB w0 w' p bb hb r h2 sb F (G.drop f) ob cs :=
  (d_drop h.both.doc f hB).mono fun _ _ ⟨he, hp, hm⟩ => ⟨he, h.stepD hp hm⟩
theorem BothB.dbytes (h : BothB w0 w p bb hb r h2 sb F G ob cs) (f : Int) : Calls Tryd.prog 36 #[.pointer (some ⟨r, 0, none⟩), .int .i64 f] w fun e w' => e = .returned (.tuple #[.string (G.bytes f), .int .i64 (asked G.held f)]) ∧ w = w' :=
  d_bytes h.both.doc f
theorem BothB.dfill (h : BothB w0 w p bb hb r h2 sb F G ob cs) (f : Int) (s : ByteArray) : Calls Tryd.prog 37 #[.pointer (some ⟨r, 0, none⟩), .int .i64 f, .string s] w fun e w' => e = .returned (.int .i64 (G.fillE f s)) ∧ BothB w0 w' p bb hb r h2 sb F (G.fill f s) ob cs :=
  (d_fill h.both.doc f s).mono fun _ _ ⟨he, hp, hm⟩ => ⟨he, h.stepD hp hm⟩
theorem BothB.dcopy (h : BothB w0 w p bb hb r h2 sb F G ob cs) (f : Int) : Calls Tryd.prog 38 #[.pointer (some ⟨r, 0, none⟩), .int .i64 f] w fun e w' => e = .returned (.tuple #[.int .i64 (G.copy f).1, .int .i64 (G.copy f).2.1]) ∧ BothB w0 w' p bb hb r h2 sb F (G.copy f).2.2 ob cs :=
  (d_copy h.both.doc f).mono fun _ _ ⟨he, hp, hm⟩ => ⟨he, h.stepD hp hm⟩
theorem BothB.dload (h : BothB w0 w p bb hb r h2 sb F G ob cs) (f a kind : Int) : Calls Tryd.prog 39 #[.pointer (some ⟨r, 0, none⟩), .int .i64 f, .int .i64 a, .int .i64 kind] w fun e w' => e = .returned (.tuple #[.int .u64 (G.load f a kind), .int .i64 (G.loadE f a kind)]) ∧ w = w' :=
  d_load h.both.doc f a kind
theorem BothB.dstore (h : BothB w0 w p bb hb r h2 sb F G ob cs) (f a kind x : Int) (hx0 : 0 ≤ x) (hx1 : x < 18446744073709551616) : Calls Tryd.prog 40 #[.pointer (some ⟨r, 0, none⟩), .int .i64 f, .int .i64 a, .int .i64 kind, .int .u64 x] w fun e w' => e = .returned (.int .i64 (G.loadE f a kind)) ∧ BothB w0 w' p bb hb r h2 sb F (G.store f a kind x) ob cs :=
  (d_store h.both.doc f a kind x hx0 hx1).mono fun _ _ ⟨he, hp, hm⟩ => ⟨he, h.stepD hp hm⟩
theorem BothB.k1 {o : Op6} (h : BothB w0 w p bb hb r h2 sb F G ob o.cells) : w.cell? ⟨ob, 1, none⟩ = some (.int .i64 o.frame) := h.cell (k := 1) rfl
theorem BothB.k2 {o : Op6} (h : BothB w0 w p bb hb r h2 sb F G ob o.cells) : w.cell? ⟨ob, 2, none⟩ = some (.int .i64 o.at_) := h.cell (k := 2) rfl
theorem BothB.k3 {o : Op6} (h : BothB w0 w p bb hb r h2 sb F G ob o.cells) : w.cell? ⟨ob, 3, none⟩ = some (.int .i64 o.word) := h.cell (k := 3) rfl
theorem BothB.k4 {o : Op6} (h : BothB w0 w p bb hb r h2 sb F G ob o.cells) : w.cell? ⟨ob, 4, none⟩ = some (.int .u64 o.bits) := h.cell (k := 4) rfl
theorem BothB.k5 {o : Op6} (h : BothB w0 w p bb hb r h2 sb F G ob o.cells) : w.cell? ⟨ob, 5, none⟩ = some (.string o.s) := h.cell (k := 5) rfl
theorem BothB.k6 {o : Op6} (h : BothB w0 w p bb hb r h2 sb F G ob o.cells) : w.cell? ⟨ob, 6, none⟩ = some (.bool o.short) := h.cell (k := 6) rfl
theorem BothB.k0 {o : Op6} (h : BothB w0 w p bb hb r h2 sb F G ob o.cells) : w.cell? ⟨ob, 0, none⟩ = some (.int .i64 o.kind) := h.cell (k := 0) rfl
end
end Go.Proofs.YtacpfkimjaihgaaDoor
