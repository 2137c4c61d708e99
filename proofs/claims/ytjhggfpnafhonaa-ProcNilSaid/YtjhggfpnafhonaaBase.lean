/- The table of processes: the map's block, said as a list of processes in the order of their numbers. Nothing here is conditional. -/
import Derived.Test.YtjhggfpnafhonaaRows
import Derived.WalkKit
import Derived.WalkSpells
import Derived.WalkLawsBesides
import Derived.Lib.Hide
import Derived.Maps.Own
import Derived.Maps.OwnOps
import Derived.Maps.OwnSet
import Derived.Maps.Ext
import Derived.Lib.SlKeysI
namespace Go.Proofs.Ytjhggfpnafhonaa
open Go.RowKit Go.Maps

/-- A process. -/
structure Pr where
  pid : Int
  parent : Int
  state : Int
  code : Int
deriving DecidableEq

def Pr.enc (p : Pr) : Value := .agg #[.int .i64 p.pid, .int .i64 p.parent, .int .i64 p.state, .int .i64 p.code]
def Pr.cells (p : Pr) : List Value := [.int .i64 p.pid, .int .i64 p.parent, .int .i64 p.state, .int .i64 p.code]
def Pr.dat (p : Pr) : DataW Unit := .agg [.lit (.int .i64 p.pid), .lit (.int .i64 p.parent), .lit (.int .i64 p.state), .lit (.int .i64 p.code)]
def Pr.zero : Pr := ⟨0, 0, 0, 0⟩

/-- How an element of the map reads. -/
noncomputable def elP (v : Value) : Option (DataW Unit × List MemPlace) := by
  classical
  exact if h : ∃ p : Pr, v = p.enc then some (h.choose.dat, []) else none

theorem Pr.enc_inj {p q : Pr} (h : p.enc = q.enc) : p = q := by
  obtain ⟨a, b, c, d⟩ := p
  obtain ⟨a', b', c', d'⟩ := q
  simpa [Pr.enc] using h
theorem Pr.dat_inj {p q : Pr} (h : p.dat = q.dat) : p = q := by
  obtain ⟨a, b, c, d⟩ := p
  obtain ⟨a', b', c', d'⟩ := q
  simpa [Pr.dat] using h
theorem elP_enc (p : Pr) : elP p.enc = some (p.dat, []) := by
  have h : ∃ q : Pr, p.enc = q.enc := ⟨p, rfl⟩
  unfold elP
  rw [dif_pos h, ← Pr.enc_inj h.choose_spec]
theorem elP_inv {v : Value} {p : Pr} {ps : List MemPlace} (h : elP v = some (p.dat, ps)) : v = p.enc := by
  unfold elP at h
  split at h
  · rename_i hq
    simp only [Option.some.injEq, Prod.mk.injEq] at h
    rw [hq.choose_spec, Pr.dat_inj h.1]
  · cases h

/-- The list as the kit's datum. -/
def rows (T : List Pr) : List (Lit × DataW Unit) := T.map (fun p => (.int .i64 p.pid, p.dat))

def find (T : List Pr) (k : Int) : Option Pr := T.find? (fun p => p.pid == k)
def ins1 (p : Pr) : List Pr → List Pr
  | [] => [p]
  | q :: r => if p.pid < q.pid then p :: q :: r else q :: ins1 p r
def del (T : List Pr) (k : Int) : List Pr := T.filter (fun p => p.pid != k)
def ins (T : List Pr) (p : Pr) : List Pr := ins1 p (del T p.pid)

theorem same_int (a b : Int) : (Lit.int .i64 a).sameKey (.int .i64 b) = (a == b) := by
  simp only [Lit.sameKey, true_and]
  rw [Bool.eq_iff_iff]; simp
theorem rows_find (T : List Pr) (k : Int) : (rows T).find? (fun p => p.1.sameKey (.int .i64 k)) = (find T k).map (fun p => (.int .i64 p.pid, p.dat)) := by
  induction T with
  | nil => rfl
  | cons p r ih =>
    simp only [rows, List.map_cons, List.find?_cons, same_int, find] at ih ⊢
    by_cases e : p.pid = k
    · simp [e]
    · have e' : (p.pid == k) = false := by simp [e]
      simp only [e', ih]
theorem rows_at (T : List Pr) (k : Int) : (DataW.map (rows T)).atKey (.int .i64 k) Pr.zero.dat = ((find T k).getD Pr.zero).dat := by
  simp only [DataW.atKey, rows_find]
  cases find T k <;> rfl
theorem rows_has (T : List Pr) (k : Int) : Maps.has (.map (rows T)) (.int .i64 k) = (find T k).isSome := by
  rw [Maps.has_eq]
  have : ∀ l : List (Lit × DataW Unit), (l.any fun p => p.1.sameKey (.int .i64 k)) = (l.find? fun p => p.1.sameKey (.int .i64 k)).isSome := by
    intro l
    induction l with
    | nil => rfl
    | cons a r ih =>
      simp only [List.any_cons, List.find?_cons, ih]
      cases a.1.sameKey (.int .i64 k) <;> rfl
  rw [this, rows_find]
  cases find T k <;> rfl
theorem rows_del (T : List Pr) (k : Int) : (DataW.map (rows T)).del (.int .i64 k) = .map (rows (del T k)) := by
  simp only [DataW.del, rows, del, List.filter_map]
  congr 2
  apply List.filter_congr
  intro p _
  simp [Lit.sameKey]
  rw [Bool.eq_iff_iff]; simp
theorem rows_ins1 (T : List Pr) (p : Pr) : DataW.insert (.int .i64 p.pid, p.dat) (rows T) = rows (ins1 p T) := by
  induction T with
  | nil => rfl
  | cons q r ih =>
    simp only [rows, List.map_cons, DataW.insert, ins1, Lit.before, decide_eq_true_eq] at ih ⊢
    split
    · rfl
    · rw [ih]; rfl
theorem rows_put (T : List Pr) (p : Pr) : (DataW.map (rows T)).put (.int .i64 p.pid) p.dat = .map (rows (ins T p)) := by
  have := rows_del T p.pid
  simp only [DataW.del, DataW.map.injEq] at this
  simp only [DataW.put, this, rows_ins1, ins]
theorem rows_size (T : List Pr) : Maps.size (.map (rows T)) = T.length := by simp [Maps.size_eq, rows]
theorem rows_keys (T : List Pr) : intKeys (.map (rows T)) = T.map (·.pid) := by
  simp only [intKeys, rows, List.map_map]
  rfl

/-- The order of the numbers. -/
def Up (T : List Pr) : Prop := T.Pairwise (fun p q => p.pid < q.pid)
theorem Up.del {T : List Pr} (h : Up T) (k : Int) : Up (del T k) := h.filter _
theorem mem_ins1 {p q : Pr} {T : List Pr} : q ∈ ins1 p T ↔ q = p ∨ q ∈ T := by
  induction T with
  | nil => simp [ins1]
  | cons a r ih =>
    simp only [ins1]
    split
    · simp
    · simp [ih]; constructor <;> rintro (h | h | h) <;> simp_all
theorem Up.ins1 {T : List Pr} (h : Up T) (p : Pr) (hp : ∀ q ∈ T, q.pid ≠ p.pid) : Up (ins1 p T) := by
  induction T with
  | nil => simp [Ytjhggfpnafhonaa.ins1, Up]
  | cons a r ih =>
    have h' := List.pairwise_cons.1 h
    simp only [Ytjhggfpnafhonaa.ins1]
    split
    · rename_i hlt
      refine List.pairwise_cons.2 ⟨?_, h⟩
      intro q hq
      rcases List.mem_cons.1 hq with rfl | hq
      · exact hlt
      · have := h'.1 q hq; omega
    · rename_i hge
      refine List.pairwise_cons.2 ⟨?_, ih h'.2 (fun q hq => hp q (List.mem_cons_of_mem _ hq))⟩
      intro q hq
      have := hp a (List.mem_cons_self ..)
      rcases mem_ins1.1 hq with rfl | hq
      · omega
      · exact h'.1 q hq
theorem Up.ins {T : List Pr} (h : Up T) (p : Pr) : Up (ins T p) :=
  (h.del p.pid).ins1 p (fun q hq => by simpa using (List.mem_filter.1 hq).2)

theorem World.ownsMap_tight {P : Program} {k : TypeId} {R : Value → Option (DataW Unit × List MemPlace)} {w : World} {b n : Nat} {D : DataW Unit} (h : w.ownsMap P k R b n D) : w.ownsMap P k R b (Maps.size D) D := by
  obtain ⟨es, clock, hb, F, hs, rfl⟩ := h
  exact ⟨es, clock, hb, F, by simp [Maps.size, length_sorted], rfl⟩

/-- Block b holds these processes. -/
def TMap (w : World) (b : Nat) (T : List Pr) : Prop := w.ownsMap Try.prog 3 elP b T.length (.map (rows T)) ∧ Up T

/-- Block t is a table over the map of block b. -/
def Tab (w : World) (t b : Nat) (T : List Pr) : Prop := (∃ fr, w.heap[t]? = some (.cells #[.map (some b)] 37 fr)) ∧ TMap w b T ∧ t ≠ b

theorem keyedK : Keyed Try.prog 3 := int_keyed (q := .i64) Try.underlying3

end Go.Proofs.Ytjhggfpnafhonaa
