/- What runs.Without returns of calls of which none is a Wait, where each was told OK. -/
import Derived.Test.YtnomklpnlohpiaaMapLib
import Derived.Test.YtnomklpnlohpiaaBase
import Derived.Deep.DeepCutAuto
namespace Go.Proofs.Ytnomklpnlohpiaa
open Go.RowKit

instance : Inhabited CV := ⟨⟨0, 0, 0, 0, 0, ⟨#[]⟩, none, 0, 0, none, 0, 0, 0⟩⟩

/-- What was told: OK, and a number. -/
def ToldAt (w : World) (a : Option Addr) (ts : List Int) : Prop :=
  ∀ i (h : i < ts.length), ∃ b off, a = some ⟨b, off, none⟩ ∧ w.cell? ⟨b, off + i * 3, none⟩ = some (.int .i64 0) ∧ w.cell? ⟨b, off + i * 3 + 1, none⟩ = some (.int .i64 ts[i])

theorem ToldAt.below {B : Nat} {w w' : World} {a : Option Addr} {ts : List Int} (h : ToldAt w a ts) (hb : Below B w w') (hB : w.heap.size ≤ B) : ToldAt w' a ts := by
  intro i hi
  obtain ⟨b, off, ha, hc, hc'⟩ := h i hi
  have := World.block_lt_of_cell? w _ hc
  exact ⟨b, off, ha, (hb.cell (p := ⟨b, off + i * 3, none⟩) (by simp at this ⊢; omega)).trans hc, (hb.cell (p := ⟨b, off + i * 3 + 1, none⟩) (by simp at this ⊢; omega)).trans hc'⟩

/-- Is a process of the family? -/
def fget (fam : List (Int × Bool)) (k : Int) : Bool := match fam with
  | [] => false
  | (j, u) :: r => if k = j then u else fget r k
def fset (fam : List (Int × Bool)) (k : Int) (v : Bool) : List (Int × Bool) := match fam with
  | [] => [(k, v)]
  | (j, u) :: r => if k = j then (k, v) :: r else (j, u) :: fset r k v
def fval (fam : List (Int × Bool)) : List (Int × Value) := fam.map fun p => (p.1, Value.bool p.2)
theorem alook_fval (fam : List (Int × Bool)) (k : Int) : (alook (fval fam) k).getD (.bool false) = .bool (fget fam k) := by
  induction fam with
  | nil => rfl
  | cons p r ih =>
    obtain ⟨j, u⟩ := p
    simp only [fval, List.map_cons, alook, fget]
    split
    · rfl
    · exact ih
theorem aset_fval (fam : List (Int × Bool)) (k : Int) (v : Bool) : aset (fval fam) k (.bool v) = fval (fset fam k v) := by
  induction fam with
  | nil => rfl
  | cons p r ih =>
    obtain ⟨j, u⟩ := p
    simp only [fval, List.map_cons, aset, fset]
    split
    · rfl
    · rw [show (r.map fun p => (p.1, Value.bool p.2)) = fval r from rfl, ih]; rfl

/-- The walk of Without: the places kept, the family, after k calls. -/
def wst (cs : List CV) (ts : List Int) (pid frm : Int) : Nat → List Int × List (Int × Bool)
  | 0 => ([], [(pid, true)])
  | k + 1 =>
    let s := wst cs ts pid frm k
    let c := cs.getD k default
    let inn := fget s.2 c.pid
    (if (k : Int) < frm ∨ inn = false ∨ c.op < 5 ∨ 11 < c.op then s.1 ++ [(k : Int)] else s.1,
     if frm ≤ (k : Int) ∧ c.op = 1 ∧ inn = true then fset s.2 (ts.getD k 0) true else s.2)
theorem wst_le (cs : List CV) (ts : List Int) (pid frm : Int) (k : Nat) : (wst cs ts pid frm k).1.length ≤ k := by
  induction k with
  | zero => simp [wst]
  | succ k ih => simp only [wst]; split <;> (try simp only [List.length_append, List.length_cons, List.length_nil]) <;> omega

theorem getD_at {α : Type} {l : List α} {d : α} {k : Nat} (h : k < l.length) : l.getD k d = l[k] := by simp [List.getD, h]
theorem IMap.beside {w w' : World} {g : Nat} {l : List (Int × Value)} (h : IMap w g l) {base e size n : Nat} {v : Value} {xs : List Value} (hown : w.ownsRow base e size v n xs) (hg : w.grownBy w' v.ownBlock) : IMap w' g l := by
  refine h.block (hg.block g h.lt ?_)
  obtain ⟨es, c, hb, _⟩ := h
  rcases hown.2 with ⟨rfl, _⟩ | ⟨r, cap, cur, rfl, _, hr, _⟩
  · simp [Value.ownBlock]
  · simp only [Value.ownBlock]
    intro e
    cases e
    rw [hb] at hr
    cases hr
theorem ownsRow_beside {w w' : World} {g : Nat} {l : List (Int × Value)} (h : IMap w g l) {base e size n : Nat} {v : Value} {xs : List Value} (hown : w.ownsRow base e size v n xs) (hg : w.grownBy w' (some g)) : w'.ownsRow base e size v n xs := by
  refine hown.kept hg ?_
  obtain ⟨es, c, hb, _⟩ := h
  rcases hown.2 with ⟨rfl, _⟩ | ⟨r, cap, cur, rfl, _, hr, _⟩
  · simp [Value.ownBlock]
  · simp only [Value.ownBlock]
    right
    intro e
    cases e
    rw [hb] at hr
    cases hr
/-- A block that was made after the row is beside it. -/
theorem cell_beside {w w' : World} {o : Obj} {off : Nat} {u : Value} {base e size n : Nat} {v : Value} {xs : List Value} (hown : w.ownsRow base e size v n xs) (hg : (w.alloc o).grownBy w' v.ownBlock)
    (h : (w.alloc o).cell? ⟨w.heap.size, off, none⟩ = some u) : w'.cell? ⟨w.heap.size, off, none⟩ = some u := by
  rw [World.cell?_of_block (w := w.alloc o) (hg.block w.heap.size (by simp) (fun e => by have := (hown.lt _ e.symm).2; omega))]
  exact h

theorem zero4 (w : World) : (zeroValue 4).run Try.prog w = .ok (.bool false) w := by kernel_rfl

set_option maxRecDepth 100000 in
set_option maxHeartbeats 1000000 in
theorem without_any (w : World) (a b : Option Addr) (n c1 c2 : Nat) (pid frm : Int) (cs : List CV) (ts : List Int) (hl : cs.length = n) (ht : ts.length = n) (hn : n ≤ 1000)
    (ha : CallsAt w a cs) (hb : ToldAt w b ts) (h4 : ∀ c ∈ cs, c.op ≠ 4) :
    Calls Try.prog 11 #[.slice a n c1, .slice b n c2, .int .i64 pid, .int .i64 frm] w fun e w' => ∃ v, e = .returned v ∧
      w'.ownsRow w.heap.size 3 1 v (wst cs ts pid frm n).1.length ((wst cs ts pid frm n).1.map (Value.int .i64)) ∧ Below w.heap.size w w' := by
  obtain ⟨i0, hi, hz0, hz1, hz2⟩ := info_parts Try.info3
  have hmm := @run_makeMap Try.prog
  have HL := Lib.hid hl
  have HT := Lib.hid ht
  have H4 := Lib.hid h4
  clear hl ht h4
  go_enter Try.func11, Try.ntmps11
  go_wp2
  go_step3
  go_wp2_with (refine wpList_insert_i _ rfl _ _ _ 44 rfl 3 4 Try.underlying44 Try.underlying3 w.heap.size [] pid (.bool true) (IMap.made w) rfl rfl rfl ?_; intro w1 him hgr)
  go_step3
  have b1 : Below w.heap.size w w1 := ((Below.refl _ _).alloc (Nat.le_refl _) _).grown hgr (by simp) (fun r hr => by cases hr; exact Nat.le_refl _)
  have him0 : IMap w1 w.heap.size (fval [(pid, true)]) := him
  clear hgr him
  go_wp2
  go_loopw [10, 19] (fun v i wr => ∃ k : Nat, k ≤ n ∧ i = .int .i64 k ∧ wr.ownsRow w.heap.size 3 1 v (wst cs ts pid frm k).1.length ((wst cs ts pid frm k).1.map (Value.int .i64)) ∧
      IMap wr w.heap.size (fval (wst cs ts pid frm k).2) ∧ Below w.heap.size w wr)
    (fun _ i _ => n - (intOf i).toNat)
  case atStart => exact ⟨0, by omega, rfl, World.ownsRow_nil _ _ _ _, him0, b1⟩
  case round =>
    obtain ⟨k, hk, rfl, hown, him, hbel⟩ := hrel
    clear him0 b1
    by_cases hlt : k < n
    · have hkc : k < cs.length := by rw [HL.out]; exact hlt
      have hkt : k < ts.length := by rw [HT.out]; exact hlt
      obtain ⟨b1, o1, rfl, h1⟩ := ha k hkc
      obtain ⟨b2, o2, rfl, t0, t1⟩ := hb k hkt
      have l1 := World.block_lt_of_cell? w _ (h1 0 (by omega))
      have l2 := World.block_lt_of_cell? w _ t0
      have tt0 := t0
      have tt1 := t1
      have t0 := (hbel.cell (p := ⟨b2, o2 + k * 3, none⟩) l2).trans t0
      have t1 := (hbel.cell (p := ⟨b2, o2 + k * 3 + 1, none⟩) l2).trans t1
      have hop4 : (cs[k]).op ≠ 4 := H4.out _ (List.getElem_mem _)
      have hsz := hbel.size
      obtain ⟨c, hc⟩ : ∃ c, c = cs[k] := ⟨_, rfl⟩
      obtain ⟨t, htt⟩ : ∃ t, t = ts[k] := ⟨_, rfl⟩
      obtain ⟨S, hS⟩ : ∃ S, S = wst cs ts pid frm k := ⟨_, rfl⟩
      have hst : wst cs ts pid frm (k + 1) = (if (k : Int) < frm ∨ fget S.2 c.pid = false ∨ c.op < 5 ∨ 11 < c.op then S.1 ++ [(k : Int)] else S.1,
          if frm ≤ (k : Int) ∧ c.op = 1 ∧ fget S.2 c.pid = true then fset S.2 t true else S.2) := by
        simp only [wst]
        rw [← hS, getD_at hkc, ← hc, getD_at hkt, ← htt]
      have hle := wst_le cs ts pid frm k
      rw [← hS] at hown him hle
      rw [← hc] at h1 hop4
      rw [← htt] at t1 tt1
      clear hS hc htt
      have HS1 := Lib.hid (congrArg Prod.fst hst)
      have HS2 := Lib.hid (congrArg Prod.snd hst)
      clear hst
      dsimp only at HS1 HS2
      have g0 := (hbel.cell (p := ⟨b1, o1 + k * 9, none⟩) l1).trans (h1 0 (by omega))
      have g1 := (hbel.cell (p := ⟨b1, o1 + k * 9 + 1, none⟩) l1).trans (h1 1 (by omega))
      have g2 := (hbel.cell (p := ⟨b1, o1 + k * 9 + 2, none⟩) l1).trans (h1 2 (by omega))
      have g3 := (hbel.cell (p := ⟨b1, o1 + k * 9 + 3, none⟩) l1).trans (h1 3 (by omega))
      have g4 := (hbel.cell (p := ⟨b1, o1 + k * 9 + 4, none⟩) l1).trans (h1 4 (by omega))
      have g5 := (hbel.cell (p := ⟨b1, o1 + k * 9 + 5, none⟩) l1).trans (h1 5 (by omega))
      have g6 := (hbel.cell (p := ⟨b1, o1 + k * 9 + 6, none⟩) l1).trans (h1 6 (by omega))
      have g7 := (hbel.cell (p := ⟨b1, o1 + k * 9 + 7, none⟩) l1).trans (h1 7 (by omega))
      have g8 := (hbel.cell (p := ⟨b1, o1 + k * 9 + 8, none⟩) l1).trans (h1 8 (by omega))
      simp only [CV.cell] at g0 g1 g2 g3 g4 g5 g6 g7 g8
      have hal := alook_fval S.2 c.pid
      have HAL := Lib.hid hal
      clear h1 ha hb hal
      obtain ⟨inn, hinn⟩ : ∃ inn, inn = fget S.2 c.pid := ⟨_, rfl⟩
      rw [← hinn] at HS1 HS2 HAL
      clear hinn
      have hcase : (k : Int) < frm ∨ (frm ≤ (k : Int) ∧ inn = false ∧ c.op = 1) ∨ (frm ≤ (k : Int) ∧ inn = false ∧ c.op ≠ 1) ∨ (frm ≤ (k : Int) ∧ inn = true ∧ c.op = 1) ∨ (frm ≤ (k : Int) ∧ inn = true ∧ c.op ≠ 1 ∧ c.op < 5) ∨
          (frm ≤ (k : Int) ∧ inn = true ∧ c.op ≠ 1 ∧ 11 < c.op) ∨ (frm ≤ (k : Int) ∧ inn = true ∧ c.op ≠ 1 ∧ 5 ≤ c.op ∧ c.op ≤ 11) := by
        cases inn <;> simp <;> omega
      have hbt : c.op = 1 → (c.op == 1) = true := fun h => by simp [h]
      have hbf : c.op ≠ 1 → (c.op == 1) = false := fun h => by simp [h]
      have hb4 : (c.op == 4) = false := by simp [hop4]
      rcases hcase with hfr | ⟨hfr, rfl, h1⟩ | ⟨hfr, rfl, h1⟩ | ⟨hfr, rfl, h1⟩ | ⟨hfr, rfl, h1, h5⟩ | ⟨hfr, rfl, h1, h5⟩ | ⟨hfr, rfl, h1, h5, h11⟩
      · clear hbt hbf
        go_wp2_with (first
          | (at_lookup; refine wpList_lookup_i _ rfl _ _ 44 false rfl 3 4 Try.underlying44 Try.underlying3 _ (zero4 _) w.heap.size (fval S.2) c.pid (him.alloc _) rfl rfl _ HAL.out ?_)
          | (at_builtin; refine wpList_append_new (wr.alloc _) rfl _ _ 25 rfl w.heap.size 3 i0 _ 1 8 Try.underlying25 hi hz0 hz1 hz2 rfl (by decide) (hown.alloc _) rfl 1 [.int .i64 (k : Int)] (by simp) rfl rfl (by simp [Value.oneCell']) (by unfold maxLen; omega) (by omega) (by simp; omega) ?_; intro v' w2 hown' hgrow _; have him2 := (him.alloc _).beside (hown.alloc _) hgrow; have bb := (hbel.alloc hsz _).grown hgrow (by simp; omega) (fun r hr => (hown.lt r hr).1); have q0 := cell_beside (off := 0) (u := .int .i64 c.op) hown hgrow (by rw [World.cell?_alloc_at _ _ _ _ rfl]; rfl); have p0 := (bb.cell (p := ⟨b2, o2 + k * 3, none⟩) l2).trans tt0; have p1 := (bb.cell (p := ⟨b2, o2 + k * 3 + 1, none⟩) l2).trans tt1)
          | (at_mapUpdate; refine wpList_mapUpdate_i _ rfl _ _ _ 44 rfl 3 4 Try.underlying44 Try.underlying3 w.heap.size (fval S.2) t (.bool true) him2 rfl rfl rfl ?_; intro w3 him3 hgr3))
        go_roundw
        case rel =>
          refine ⟨k + 1, by omega, by go_num, ?_, ?_, bb⟩
          · rw [HS1.out, if_pos (.inl hfr)]; simpa using hown'
          · rw [HS2.out, if_neg (by omega)]; exact him2
        case measure => simp [intOf]; omega
      · have he1 := hbt h1
        have H1 := Lib.hid h1
        clear h1 hbt hbf
        go_wp2_with (first
          | (at_lookup; refine wpList_lookup_i _ rfl _ _ 44 false rfl 3 4 Try.underlying44 Try.underlying3 _ (zero4 _) w.heap.size (fval S.2) c.pid (him.alloc _) rfl rfl _ HAL.out ?_)
          | (at_builtin; refine wpList_append_new (wr.alloc _) rfl _ _ 25 rfl w.heap.size 3 i0 _ 1 8 Try.underlying25 hi hz0 hz1 hz2 rfl (by decide) (hown.alloc _) rfl 1 [.int .i64 (k : Int)] (by simp) rfl rfl (by simp [Value.oneCell']) (by unfold maxLen; omega) (by omega) (by simp; omega) ?_; intro v' w2 hown' hgrow _; have him2 := (him.alloc _).beside (hown.alloc _) hgrow; have bb := (hbel.alloc hsz _).grown hgrow (by simp; omega) (fun r hr => (hown.lt r hr).1); have q0 := cell_beside (off := 0) (u := .int .i64 c.op) hown hgrow (by rw [World.cell?_alloc_at _ _ _ _ rfl]; rfl); have p0 := (bb.cell (p := ⟨b2, o2 + k * 3, none⟩) l2).trans tt0; have p1 := (bb.cell (p := ⟨b2, o2 + k * 3 + 1, none⟩) l2).trans tt1)
          | (at_mapUpdate; refine wpList_mapUpdate_i _ rfl _ _ _ 44 rfl 3 4 Try.underlying44 Try.underlying3 w.heap.size (fval S.2) t (.bool true) him2 rfl rfl rfl ?_; intro w3 him3 hgr3))
        go_roundw
        case rel =>
          refine ⟨k + 1, by omega, by go_num, ?_, ?_, bb⟩
          · rw [HS1.out, if_pos (.inr (.inl rfl))]; simpa using hown'
          · rw [HS2.out, if_neg (by simp)]; exact him2
        case measure => simp [intOf]; omega
      · have he1 := hbf h1
        have H1 := Lib.hid h1
        clear h1 hbt hbf
        go_wp2_with (first
          | (at_lookup; refine wpList_lookup_i _ rfl _ _ 44 false rfl 3 4 Try.underlying44 Try.underlying3 _ (zero4 _) w.heap.size (fval S.2) c.pid (him.alloc _) rfl rfl _ HAL.out ?_)
          | (at_builtin; refine wpList_append_new (wr.alloc _) rfl _ _ 25 rfl w.heap.size 3 i0 _ 1 8 Try.underlying25 hi hz0 hz1 hz2 rfl (by decide) (hown.alloc _) rfl 1 [.int .i64 (k : Int)] (by simp) rfl rfl (by simp [Value.oneCell']) (by unfold maxLen; omega) (by omega) (by simp; omega) ?_; intro v' w2 hown' hgrow _; have him2 := (him.alloc _).beside (hown.alloc _) hgrow; have bb := (hbel.alloc hsz _).grown hgrow (by simp; omega) (fun r hr => (hown.lt r hr).1); have q0 := cell_beside (off := 0) (u := .int .i64 c.op) hown hgrow (by rw [World.cell?_alloc_at _ _ _ _ rfl]; rfl); have p0 := (bb.cell (p := ⟨b2, o2 + k * 3, none⟩) l2).trans tt0; have p1 := (bb.cell (p := ⟨b2, o2 + k * 3 + 1, none⟩) l2).trans tt1)
          | (at_mapUpdate; refine wpList_mapUpdate_i _ rfl _ _ _ 44 rfl 3 4 Try.underlying44 Try.underlying3 w.heap.size (fval S.2) t (.bool true) him2 rfl rfl rfl ?_; intro w3 him3 hgr3))
        go_roundw
        case rel =>
          refine ⟨k + 1, by omega, by go_num, ?_, ?_, bb⟩
          · rw [HS1.out, if_pos (.inr (.inl rfl))]; simpa using hown'
          · rw [HS2.out, if_neg (by simp)]; exact him2
        case measure => simp [intOf]; omega
      · have he1 := hbt h1
        have h5 : c.op < 5 := by omega
        have H1 := Lib.hid h1
        clear h1 hbt hbf
        go_wp2_with (first
          | (at_lookup; refine wpList_lookup_i _ rfl _ _ 44 false rfl 3 4 Try.underlying44 Try.underlying3 _ (zero4 _) w.heap.size (fval S.2) c.pid (him.alloc _) rfl rfl _ HAL.out ?_)
          | (at_builtin; refine wpList_append_new (wr.alloc _) rfl _ _ 25 rfl w.heap.size 3 i0 _ 1 8 Try.underlying25 hi hz0 hz1 hz2 rfl (by decide) (hown.alloc _) rfl 1 [.int .i64 (k : Int)] (by simp) rfl rfl (by simp [Value.oneCell']) (by unfold maxLen; omega) (by omega) (by simp; omega) ?_; intro v' w2 hown' hgrow _; have him2 := (him.alloc _).beside (hown.alloc _) hgrow; have bb := (hbel.alloc hsz _).grown hgrow (by simp; omega) (fun r hr => (hown.lt r hr).1); have q0 := cell_beside (off := 0) (u := .int .i64 c.op) hown hgrow (by rw [World.cell?_alloc_at _ _ _ _ rfl]; rfl); have p0 := (bb.cell (p := ⟨b2, o2 + k * 3, none⟩) l2).trans tt0; have p1 := (bb.cell (p := ⟨b2, o2 + k * 3 + 1, none⟩) l2).trans tt1)
          | (at_mapUpdate; refine wpList_mapUpdate_i _ rfl _ _ _ 44 rfl 3 4 Try.underlying44 Try.underlying3 w.heap.size (fval S.2) t (.bool true) him2 rfl rfl rfl ?_; intro w3 him3 hgr3))
        go_roundw
        case rel =>
          refine ⟨k + 1, by omega, by go_num, ?_, ?_, bb.grown hgr3 (by have := bb.size; omega) (fun r hr => by cases hr; exact Nat.le_refl _)⟩
          · rw [HS1.out, if_pos (.inr (.inr (.inl h5)))]; exact ownsRow_beside him2 (by simpa using hown') hgr3
          · rw [HS2.out, if_pos ⟨hfr, H1.out, rfl⟩, ← aset_fval]; exact him3
        case measure => simp [intOf]; omega
      · have he1 := hbf h1
        have H1 := Lib.hid h1
        clear h1 hbt hbf
        go_wp2_with (first
          | (at_lookup; refine wpList_lookup_i _ rfl _ _ 44 false rfl 3 4 Try.underlying44 Try.underlying3 _ (zero4 _) w.heap.size (fval S.2) c.pid (him.alloc _) rfl rfl _ HAL.out ?_)
          | (at_builtin; refine wpList_append_new (wr.alloc _) rfl _ _ 25 rfl w.heap.size 3 i0 _ 1 8 Try.underlying25 hi hz0 hz1 hz2 rfl (by decide) (hown.alloc _) rfl 1 [.int .i64 (k : Int)] (by simp) rfl rfl (by simp [Value.oneCell']) (by unfold maxLen; omega) (by omega) (by simp; omega) ?_; intro v' w2 hown' hgrow _; have him2 := (him.alloc _).beside (hown.alloc _) hgrow; have bb := (hbel.alloc hsz _).grown hgrow (by simp; omega) (fun r hr => (hown.lt r hr).1); have q0 := cell_beside (off := 0) (u := .int .i64 c.op) hown hgrow (by rw [World.cell?_alloc_at _ _ _ _ rfl]; rfl); have p0 := (bb.cell (p := ⟨b2, o2 + k * 3, none⟩) l2).trans tt0; have p1 := (bb.cell (p := ⟨b2, o2 + k * 3 + 1, none⟩) l2).trans tt1)
          | (at_mapUpdate; refine wpList_mapUpdate_i _ rfl _ _ _ 44 rfl 3 4 Try.underlying44 Try.underlying3 w.heap.size (fval S.2) t (.bool true) him2 rfl rfl rfl ?_; intro w3 him3 hgr3))
        go_roundw
        case rel =>
          refine ⟨k + 1, by omega, by go_num, ?_, ?_, bb⟩
          · rw [HS1.out, if_pos (.inr (.inr (.inl h5)))]; simpa using hown'
          · rw [HS2.out, if_neg (by simp [H1.out])]; exact him2
        case measure => simp [intOf]; omega
      · have he1 := hbf h1
        have H1 := Lib.hid h1
        clear h1 hbt hbf
        go_wp2_with (first
          | (at_lookup; refine wpList_lookup_i _ rfl _ _ 44 false rfl 3 4 Try.underlying44 Try.underlying3 _ (zero4 _) w.heap.size (fval S.2) c.pid (him.alloc _) rfl rfl _ HAL.out ?_)
          | (at_builtin; refine wpList_append_new (wr.alloc _) rfl _ _ 25 rfl w.heap.size 3 i0 _ 1 8 Try.underlying25 hi hz0 hz1 hz2 rfl (by decide) (hown.alloc _) rfl 1 [.int .i64 (k : Int)] (by simp) rfl rfl (by simp [Value.oneCell']) (by unfold maxLen; omega) (by omega) (by simp; omega) ?_; intro v' w2 hown' hgrow _; have him2 := (him.alloc _).beside (hown.alloc _) hgrow; have bb := (hbel.alloc hsz _).grown hgrow (by simp; omega) (fun r hr => (hown.lt r hr).1); have q0 := cell_beside (off := 0) (u := .int .i64 c.op) hown hgrow (by rw [World.cell?_alloc_at _ _ _ _ rfl]; rfl); have p0 := (bb.cell (p := ⟨b2, o2 + k * 3, none⟩) l2).trans tt0; have p1 := (bb.cell (p := ⟨b2, o2 + k * 3 + 1, none⟩) l2).trans tt1)
          | (at_mapUpdate; refine wpList_mapUpdate_i _ rfl _ _ _ 44 rfl 3 4 Try.underlying44 Try.underlying3 w.heap.size (fval S.2) t (.bool true) him2 rfl rfl rfl ?_; intro w3 him3 hgr3))
        go_roundw
        case rel =>
          refine ⟨k + 1, by omega, by go_num, ?_, ?_, bb⟩
          · rw [HS1.out, if_pos (.inr (.inr (.inr h5)))]; simpa using hown'
          · rw [HS2.out, if_neg (by simp [H1.out])]; exact him2
        case measure => simp [intOf]; omega
      · have he1 := hbf h1
        have H1 := Lib.hid h1
        clear h1 hbt hbf
        have l2' : b2 < wr.heap.size := Nat.lt_of_lt_of_le l2 hsz
        go_wp2_with (at_lookup; refine wpList_lookup_i _ rfl _ _ 44 false rfl 3 4 Try.underlying44 Try.underlying3 _ (zero4 _) w.heap.size (fval S.2) c.pid (him.alloc _) rfl rfl _ HAL.out ?_)
        go_roundw
        case rel =>
          refine ⟨k + 1, by omega, by go_num, ?_, ?_, hbel.alloc hsz _⟩
          · rw [HS1.out, if_neg (by simp; omega)]; exact hown.alloc _
          · rw [HS2.out, if_neg (by simp [H1.out])]; exact him.alloc _
        case measure => simp [intOf]; omega
    · have hkn : k = n := by omega
      subst hkn
      go_wp2
      rw [Exit.noGoto_ret]
      go_ret
      exact ⟨_, rfl, hown, hbel⟩
end Go.Proofs.Ytnomklpnlohpiaa
