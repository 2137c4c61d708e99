/- Frames apart: the frames' words and a table of them; a row of an array copied into another. No conditions. -/
import Derived.Test.YtacpfkimjaihgaaDoorFArr
import Derived.Deep.MidRow
namespace Go.Proofs.YtacpfkimjaihgaaDoor
open Go.RowKit
set_option linter.unusedVariables false

section
variable {P : Program}
theorem wpList_store_part (w : World) {ops : Array Oper} {rest : List Oper} {o : Oper} {a : Act} {Q : Exit → Act → World → Prop} (hgd : o.guard = none) (ty : TypeId) (x y : Operand) (ho : o.op = .store ty x y)
    (g off : Nat) (xs : List Value) (hx : a.eval x = .pointer (some ⟨g, off, none⟩)) (hy : a.eval y = .agg xs.toArray) (cur : List Value) (et : TypeId) (hg : w.heap[g]? = some (.cells cur.toArray et (0, 0)))
    (hfit : off + xs.length ≤ cur.length) (hi : (P.info? ty).map (·.size) = some xs.length) (h1 : ∀ v ∈ xs, v.oneCell' = true)
    (h : ∀ w', w'.heap[g]? = some (.cells (splice cur off xs).toArray et (0, 0)) → Mods [g] w w' → w'.heap.size = w.heap.size → wpList P ops Q rest (a.put o.dst undef) w') : wpList P ops Q (o :: rest) a w := by
  refine wpList_plain hgd fun K hK => ?_
  have hst := run_storeCells_at P g off et xs 0 cur.toArray w hg (by simpa using hfit) h1
  have hrun : (Instr.storeAt ty (.pointer (some ⟨g, off, none⟩)) (.agg xs.toArray)).run P w = .ok () (w.setRow g (splice cur off xs).toArray) := by
    cases hq : P.info? ty with
    | none => simp [hq] at hi
    | some i =>
      have hs : xs.length = i.size := by simp [hq] at hi; omega
      simp only [Nat.add_zero] at hst
      simp only [Instr.storeAt, Instr.sureAddr, Sem.run_bind, Sem.run_pure, Result.andThen_ok]
      simp [storeVar, sizeOf, typeInfo, hq, Value.cells, hs, hst, splice]
  unfold Oper.wp execOp
  simp only [ho, hx, hy, Sem.run_bind, hrun, Result.andThen_ok]
  exact hK _ _ (h _ (row_setRow hg) ((Mods.refl [g] w).setRow (.inl (by simp)) _) (by simp [World.setRow]))
end
theorem Tryd.info27 : (Tryd.prog.info? 27).map (·.size) = some 16 := by kernel_rfl

def uv (W : List Int) : List Value := W.map (Value.int .u64)
theorem uv_get {W : List Int} {k : Nat} (h : k < W.length) : (uv W)[k]? = some (.int .u64 W[k]) := by simp [uv, h]
theorem uv_set (W : List Int) (k : Nat) (v : Int) : (uv W).set k (.int .u64 v) = uv (W.set k v) := by simp [uv, List.map_set]
theorem uv_splice (W X : List Int) (k : Nat) : splice (uv W) k (uv X) = uv (splice W k X) := by simp [uv, splice, List.map_take, List.map_drop]
theorem uv_one (W : List Int) : ∀ v ∈ uv W, v.oneCell' = true := by
  intro v hv
  simp only [uv, List.mem_map] at hv
  obtain ⟨c, _, rfl⟩ := hv
  rfl
/-- The word at place k of a frame. -/
def wordAt (s : List UInt8) (k : Nat) : Int := leV ((s.drop (4 * k)).take 4)
theorem wordAt_range {s : List UInt8} {k : Nat} (h : s.length = 64) (hk : k < 16) : 0 ≤ wordAt s k ∧ wordAt s k < 4294967296 := by
  have := leV_range ((s.drop (4 * k)).take 4)
  rw [part_length h (by omega)] at this
  exact this
/-- The table says the frames' words, of the first n frames. -/
structure Says (F : FP) (W : List Int) (n : Nat) : Prop where
  held : F.held = heldT n 9
  secs : F.secs.length = 9
  each : ∀ s ∈ F.secs, s.length = 64
  len : W.length = 144
  n9 : n = 8 ∨ n = 9
  eq : ∀ f k, f < n → k < 16 → (h : f * 16 + k < W.length) → W[f * 16 + k] = wordAt (F.sec f) k
theorem Says.sec64 {F : FP} {W : List Int} {n : Nat} (h : Says F W n) {f : Nat} (hf : f < 9) : (F.sec f).length = 64 := by
  have hf2 : f < F.secs.length := by rw [h.secs]; exact hf
  rw [FP.sec_nat hf2]
  exact h.each _ (List.getElem_mem _)
theorem Says.isHeld {F : FP} {W : List Int} {n : Nat} (h : Says F W n) {f : Nat} (hf : f < n) : ∃ hk : f < F.held.length, F.held[f] ≠ 0 := by
  have hn := h.n9
  have hl : f < F.held.length := by rw [h.held, heldT_length (by omega)]; omega
  refine ⟨hl, ?_⟩
  have : F.held[f] = (heldT n 9)[f]'(by rw [heldT_length (by omega)]; omega) := by simp only [h.held]
  rw [this, heldT_lt (by omega) hf]
  decide
theorem clip3 {x : Int} (h0 : 0 ≤ x) (h1 : x < 4294967296) : clipOf 3 x = x := by
  simp [clipOf, modOf, widthOf, widths, signedOf]
  omega
theorem sec_set9 {F : FP} {H : List Int} {k j : Nat} {x : List UInt8} (hk : k < F.secs.length) : (FP.mk (F.secs.set j x) H).sec k = if j = k then x else F.sec k := by
  simp only [FP.sec, Int.toNat_natCast]
  rw [List.getD_eq_getElem?_getD, List.getD_eq_getElem?_getD, List.getElem?_set]
  by_cases e : j = k
  · rw [if_pos e, if_pos e, if_pos (by omega)]; rfl
  · rw [if_neg e, if_neg e]
theorem wordAt_splice {s : List UInt8} {k j : Nat} {x : Int} (h : s.length = 64) (hk : k < 16) (hj : j < 16) (h0 : 0 ≤ x) (h1 : x < 4294967296) : wordAt (splice s (4 * k) (leL x 4)) j = if k = j then x else wordAt s j := by
  have hfit : 4 * k + (leL x 4).length ≤ s.length := by rw [leL_length, h]; omega
  unfold wordAt
  by_cases e : k = j
  · subst e
    have := take_splice s (leL x 4) (4 * k) hfit
    rw [leL_length] at this
    rw [if_pos rfl, this, leV_leL x h0]
    omega
  · rw [if_neg e]
    rcases Nat.lt_or_gt_of_ne e with hlt | hgt
    · rw [take_behind s (leL x 4) (4 * k) (4 * j) 4 hfit (by rw [leL_length]; omega)]
    · rw [take_before s (leL x 4) (4 * k) (4 * j) 4 hfit (by omega)]
section
variable {F : FP} {W : List Int} {n : Nat}
theorem Says.store (h : Says F W n) {f k : Nat} {x : Int} (hf : f < n) (hk : k < 16) (h0 : 0 ≤ x) (h1 : x < 4294967296) :
    F.loadE f ((4 * k : Nat) : Int) 3 = 0 ∧ Says (F.store f ((4 * k : Nat) : Int) 3 x) (W.set (f * 16 + k) x) n := by
  obtain ⟨hl, hz⟩ := h.isHeld hf
  have hn := h.n9
  refine ⟨loadE_at hl hz (n := 4) rfl (by omega) (by omega), ?_⟩
  rw [store_at hl hz (n := 4) rfl (by omega) (by omega)]
  have h64 := h.sec64 (f := f) (by omega)
  have hfit : 4 * k + (leL x 4).length ≤ (F.sec f).length := by rw [leL_length, h64]; omega
  refine ⟨h.held, by simpa using h.secs, fun s hs => ?_, by simpa using h.len, h.n9, fun f' k' hf' hk' hb => ?_⟩
  · rcases List.mem_or_eq_of_mem_set hs with hs | rfl
    · exact h.each s hs
    · rw [length_splice _ _ _ hfit]; exact h64
  · rw [sec_set9 (by rw [h.secs]; omega), List.getElem_set]
    by_cases e : f = f'
    · subst e
      rw [if_pos rfl, wordAt_splice h64 hk hk' h0 h1]
      by_cases e2 : k = k'
      · subst e2; rw [if_pos rfl, if_pos rfl]
      · rw [if_neg (by omega), if_neg e2]
        exact h.eq f k' hf hk' _
    · rw [if_neg (by omega), if_neg e]
      exact h.eq f' k' hf' hk' _
theorem Says.load (h : Says F W n) {f k : Nat} (hf : f < n) (hk : k < 16) (hb : f * 16 + k < W.length) : F.loadE f ((4 * k : Nat) : Int) 3 = 0 ∧ F.load f ((4 * k : Nat) : Int) 3 = W[f * 16 + k] := by
  obtain ⟨hl, hz⟩ := h.isHeld hf
  have hn := h.n9
  refine ⟨loadE_at hl hz (n := 4) rfl (by omega) (by omega), ?_⟩
  rw [load_at hl hz (n := 4) rfl (by omega) (by omega), h.eq f k hf hk hb]
  have := wordAt_range (h.sec64 (f := f) (by omega)) hk
  exact clip3 this.1 this.2
theorem Says.copy (h : Says F W 8) {g : Nat} (hg : g < 8) : ∃ F', F.copy g = (8, 0, F') ∧ Says F' (splice W 128 ((W.drop (g * 16)).take 16)) 9 := by
  obtain ⟨hl, hz⟩ := h.isHeld hg
  have ha : asked F.held g = 0 := by rw [asked_nat hl, if_neg hz]
  have hff : firstFree F.held = 8 := by rw [h.held]; exact free_heldT (by decide)
  have hlen : F.held.length = 9 := by rw [h.held]; exact heldT_length (by decide)
  have hlX : ((W.drop (g * 16)).take 16).length = 16 := by rw [List.length_take, List.length_drop, h.len]; omega
  have hlS : (splice W 128 ((W.drop (g * 16)).take 16)).length = 144 := by rw [length_splice _ _ _ (by rw [hlX, h.len]; decide)]; exact h.len
  refine ⟨⟨F.secs.set 8 (F.sec g), F.held.set 8 1⟩, by rw [FP.copy, if_pos ha, hff, hlen, if_pos (by decide)]; rfl, ?_, by simpa using h.secs, fun s hs => ?_, hlS, .inr rfl, fun f k hf hk hb => ?_⟩
  · show F.held.set 8 1 = _
    rw [h.held]
    exact heldT_set (by decide)
  · rcases List.mem_or_eq_of_mem_set hs with hs | rfl
    · exact h.each s hs
    · exact h.sec64 (by omega)
  · rw [sec_set9 (by rw [h.secs]; omega)]
    have e1 : (splice W 128 ((W.drop (g * 16)).take 16))[f * 16 + k]? = some ((splice W 128 ((W.drop (g * 16)).take 16))[f * 16 + k]) := List.getElem?_eq_getElem hb
    have hT : (W.take 128).length = 128 := by rw [List.length_take, h.len]; omega
    by_cases e : 8 = f
    · subst e
      rw [if_pos rfl, ← h.eq g k hg hk (by rw [h.len]; omega)]
      have : (splice W 128 ((W.drop (g * 16)).take 16))[8 * 16 + k]? = some (W[g * 16 + k]'(by rw [h.len]; omega)) := by
        rw [splice, List.getElem?_append_right (by omega), hT, List.getElem?_append_left (by rw [hlX]; omega), List.getElem?_take, if_pos (by omega), List.getElem?_drop, show g * 16 + (8 * 16 + k - 128) = g * 16 + k by omega, List.getElem?_eq_getElem]
      rw [this] at e1
      exact (Option.some.inj e1).symm
    · rw [if_neg e, ← h.eq f k (by omega) hk (by rw [h.len]; omega)]
      have : (splice W 128 ((W.drop (g * 16)).take 16))[f * 16 + k]? = some (W[f * 16 + k]'(by rw [h.len]; omega)) := by
        rw [splice, List.getElem?_append_left (by omega), List.getElem?_take, if_pos (by omega), List.getElem?_eq_getElem]
      rw [this] at e1
      exact (Option.some.inj e1).symm
theorem says_start {S : List (List UInt8)} (h1 : S.length = 9) (h2 : ∀ s ∈ S, s = zeroSec) : Says ⟨S, heldT 8 9⟩ (List.replicate 144 0) 8 := by
  refine ⟨rfl, h1, fun s hs => by rw [h2 s hs]; rfl, by simp, .inl rfl, fun f k hf hk hb => ?_⟩
  have hf2 : f < (FP.mk S (heldT 8 9)).secs.length := by show f < S.length; omega
  rw [FP.sec_nat hf2, h2 _ (List.getElem_mem _), List.getElem_replicate]
  have : ∀ j, j < 16 → (0 : Int) = wordAt zeroSec j := by decide
  exact this k hk
end
theorem take_heldT {S : List (List UInt8)} {t N : Nat} (ht : t < N) : FP.take ⟨S, heldT t N⟩ = ((t : Int), 0, ⟨S.set t zeroSec, heldT (t + 1) N⟩) := by
  rw [FP.take]
  simp only [free_heldT (Nat.le_of_lt ht), heldT_length (Nat.le_of_lt ht), if_pos ht, heldT_set ht]
theorem AtA.splice (w0 w w' : World) {p bb hb A : Nat} {F : FP} {T : TypeId} {cs ds : List Value} (h : AtA w0 w p bb hb F A T cs) (hr : w'.heap[A]? = some (.cells ds.toArray T (0, 0))) (hm : Mods [A] w w') : AtA w0 w' p bb hb F A T ds := by
  have hn := h.nA
  refine ⟨⟨PA.mods h.at_.pool hm (by simp at hn ⊢; omega) (by simp at hn ⊢; omega) (by simp at hn ⊢; omega), ?_, h.at_.hp, h.at_.hbb, h.at_.hhb⟩, hr, h.nA, h.hA⟩
  exact below_after h.at_.below hm h.at_.below.size (by have := h.hA; simp; omega)
end Go.Proofs.YtacpfkimjaihgaaDoor
