/- The Go text of flyleaflaw02.WordKinds returns true and writes nothing that was there. -/
import Derived.Test.YtlcconooojlhhaaDoorAwake02
import Derived.Test.YtlcconooojlhhaaDoorRef01
namespace Go.Proofs.YtlcconooojlhhaaDoor
open Go.RowKit
set_option linter.unusedVariables false
set_option maxRecDepth 100000 in
set_option maxHeartbeats 4000000 in
theorem kinds_walk (w : World) (hw : Wd w) (k : Int) (hk0 : (Lit.int IntKind.i64 k).wf = true) (b : Int) (h0 : 0 ≤ b) (h1 : b < 18446744073709551616) (s : ByteArray) (hs : s.size ≤ maxLen) :
    Calls Tryd.prog 9 #[.int .i64 k, .int .u64 b, .string s] w fun e w' => e = .returned (.bool true) ∧ Below w.heap.size w w' := by
  have hwd := width_any w hw k
  have hrwd := rwidth_any w k
  have hwr := widthOf_range k
  have hsg := signed_any w k
  have hrsg := rsigned_any w k
  have hcl := clip_any w hw k b h0 h1
  have hrcl := rclip_any w k b h0 h1
  have hby := bytes_any w hw k b h0 h1
  have hrp := fun W => rput_any8 W b (widthOf k).toNat (by omega) h0 h1
  have hwn : ((widthOf k).toNat : Int) = widthOf k := by omega
  have hrwd2 := fun W => rwidth_any W k
  have aw := awake02 w hw
  rw [hwn] at hrp
  generalize leS b (widthOf k).toNat = bs at *
  by_cases h10 : 10 < s.size
  · have hrd := read_word w hw k (s.extract 0 10)
    have hrrd := rread_any w k (s.extract 0 10) (by simp [ByteArray.size_extract]; omega)
    generalize (readOf k (s.extract 0 10)).1 = r1 at *
    generalize (readOf k (s.extract 0 10)).2 = r2 at *
    generalize widthOf k = wk at *
    generalize signedOf k = sk at *
    generalize clipOf k b = ck at *
    clear hw hwr hwn
    go_enter Tryd.func9, Tryd.ntmps9
    go_wp2_with fail
    refine aw.mono ?_
    rintro e w1 ⟨rfl, rfl⟩
    go_wp2_with fail
    refine hrd.mono ?_
    rintro e w1 ⟨rfl, rfl⟩
    go_wp2_with fail
    refine hrrd.mono ?_
    rintro e w1 ⟨rfl, rfl⟩
    go_wp2_with fail
    refine hwd.mono ?_
    rintro e w1 ⟨rfl, rfl⟩
    go_wp2_with fail
    refine hrwd.mono ?_
    rintro e w1 ⟨rfl, rfl⟩
    go_wp2_with fail
    refine hsg.mono ?_
    rintro e w1 ⟨rfl, rfl⟩
    go_wp2_with fail
    refine hrsg.mono ?_
    rintro e w1 ⟨rfl, rfl⟩
    go_wp2_with fail
    refine hcl.mono ?_
    rintro e w1 ⟨rfl, rfl⟩
    go_wp2_with fail
    refine hrcl.mono ?_
    rintro e w1 ⟨rfl, rfl⟩
    go_wp2_with fail
    refine hby.mono ?_
    rintro e w2 ⟨rfl, q2⟩
    have z2 := q2.size
    go_wp2_with fail
    refine (hrwd2 w2).mono ?_
    rintro e w3 ⟨rfl, rfl⟩
    go_wp2_with fail
    refine (hrp w2).mono ?_
    rintro e w3 ⟨rfl, q3⟩
    go_wp2_with fail
    go_ret
    exact ⟨rfl, q2.trans (q3.mono z2)⟩
  · have hrd := read_word w hw k (s)
    have hrrd := rread_any w k (s) (by unfold maxLen at hs; omega)
    generalize (readOf k (s)).1 = r1 at *
    generalize (readOf k (s)).2 = r2 at *
    generalize widthOf k = wk at *
    generalize signedOf k = sk at *
    generalize clipOf k b = ck at *
    clear hw hwr hwn
    go_enter Tryd.func9, Tryd.ntmps9
    go_wp2_with fail
    refine aw.mono ?_
    rintro e w1 ⟨rfl, rfl⟩
    go_wp2_with fail
    refine hrd.mono ?_
    rintro e w1 ⟨rfl, rfl⟩
    go_wp2_with fail
    refine hrrd.mono ?_
    rintro e w1 ⟨rfl, rfl⟩
    go_wp2_with fail
    refine hwd.mono ?_
    rintro e w1 ⟨rfl, rfl⟩
    go_wp2_with fail
    refine hrwd.mono ?_
    rintro e w1 ⟨rfl, rfl⟩
    go_wp2_with fail
    refine hsg.mono ?_
    rintro e w1 ⟨rfl, rfl⟩
    go_wp2_with fail
    refine hrsg.mono ?_
    rintro e w1 ⟨rfl, rfl⟩
    go_wp2_with fail
    refine hcl.mono ?_
    rintro e w1 ⟨rfl, rfl⟩
    go_wp2_with fail
    refine hrcl.mono ?_
    rintro e w1 ⟨rfl, rfl⟩
    go_wp2_with fail
    refine hby.mono ?_
    rintro e w2 ⟨rfl, q2⟩
    have z2 := q2.size
    go_wp2_with fail
    refine (hrwd2 w2).mono ?_
    rintro e w3 ⟨rfl, rfl⟩
    go_wp2_with fail
    refine (hrp w2).mono ?_
    rintro e w3 ⟨rfl, q3⟩
    go_wp2_with fail
    go_ret
    exact ⟨rfl, q2.trans (q3.mono z2)⟩
end Go.Proofs.YtlcconooojlhhaaDoor
