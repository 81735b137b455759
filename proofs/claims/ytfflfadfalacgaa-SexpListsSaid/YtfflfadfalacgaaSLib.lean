/- Proved: strings.IndexByte (27) and its callee (31), at this program. -/
import Derived.Test.YtfflfadfalacgaaSRd
import Derived.Lib.Bytealg
namespace Go.Proofs.Ytfflfadfalacgaa.SLib
open Go.RowKit Go.Proofs.YtfflfadfalacgaaW.PrintWords Go.Proofs.YtfflfadfalacgaaW.PrintLast Go.Proofs.YtfflfadfalacgaaW.PrintMore Go.Proofs.Ytfflfadfalacgaa.SMem Go.Proofs.Ytfflfadfalacgaa.SPlain Go.Proofs.Ytfflfadfalacgaa.SRef Go.Proofs.Ytfflfadfalacgaa.SRd
set_option linter.unusedVariables false
set_option linter.unusedSimpArgs false
set_option maxHeartbeats 4000000
set_option maxRecDepth 100000
theorem ib31_calls (s : ByteArray) (c : Int) (w : World) :
    Calls Try.prog 31 #[.string s, .int .u8 c] w fun e w' => e = .returned (.int .i64 (Lib.indexByte s.data.toList c.toNat.toUInt8)) ∧ w' = w := by
  go_enter Try.func31, Try.ntmps31
  go_wp2
  rw [run_callFunc_extern (e := Extern.BytealgIndexByte.indexByte) (fn := Try.f33) Try.func33 (by kernel_rfl) (by kernel_rfl) (by kernel_rfl) (by kernel_rfl), Lib.run_indexByteString]
  simp only [Result.andThen]
  rw [Oper.upon_value]
  go_wp2
  go_ret
  exact ⟨rfl, rfl⟩
theorem ib27_calls (s : ByteArray) (c : Int) (w : World) :
    Calls Try.prog 27 #[.string s, .int .u8 c] w fun e w' => e = .returned (.int .i64 (Lib.indexByte s.data.toList c.toNat.toUInt8)) ∧ w = w' := by
  go_enter Try.func27, Try.ntmps27
  go_wp2_with (first | (go_at_call 31; refine (ib31_calls s c _).mono ?_; rintro e w_ ⟨rfl, rfl⟩))
  go_ret
  exact ⟨rfl, rfl⟩
/-- Whether a byte belongs to an atom, as the program asks it. -/
def inB (l : List UInt8) (b : Int) : Bool := decide (0 ≤ Lib.indexByte l b.toNat.toUInt8)
theorem atom_calls (b : Int) (w : World) (h0 : 0 ≤ b) (h1 : b ≤ 255) :
    Calls Try.prog 25 #[.int .u8 b] w fun e w' => e = .returned (.bool (decide (32 < b) && decide (b ≠ 127) && ! inB [40, 41, 34, 39, 96, 44, 59] b)) ∧ w = w' := by
  go_enter Try.func25, Try.ntmps25
  go_wp2_with (first | (go_at_call 27; refine (ib27_calls _ b _).mono ?_; rintro e w_ ⟨rfl, rfl⟩))
  all_goals go_ret
  all_goals refine ⟨?_, rfl⟩
  all_goals refine congrArg (fun z => Ending.returned (.bool z)) ?_
  all_goals by_cases g1 : 32 < b
  all_goals by_cases g2 : b = 127
  all_goals first | (exfalso; omega) | (simp only [inB, bne, beq_eq_false_iff_ne.2 g2, g1, g2, ← Int.not_le, decide_not, decide_true, decide_false, Bool.not_false, Bool.true_and, ne_eq, not_false_eq_true]; done) | (simp only [inB, bne, beq_eq_false_iff_ne.2 g2, g1, g2, ← Int.not_le, decide_not, decide_true, decide_false, Bool.not_false, Bool.true_and, ne_eq, not_false_eq_true]; rfl) | (simp [inB, g1, g2]; done) | (simp [inB, g1, g2, Int.not_le]; done) | (simp_all [inB, Int.not_le]; done)
theorem hp34_calls (s p : ByteArray) (w : World) (hs : s.size ≤ 1000000000) (hp : p.size ≤ 1000000000) :
    Calls Try.prog 34 #[.string s, .string p] w fun e w' => e = .returned (.bool (decide (p.size ≤ s.size) && ((s.extract 0 p.size).toList == p.toList))) ∧ w = w' := by
  by_cases hle : p.size ≤ s.size
  · have hle' : (p.size : Int) ≤ (s.size : Int) := by omega
    go_enter Try.func34, Try.ntmps34
    go_wp2
    all_goals go_ret
    all_goals refine ⟨?_, rfl⟩
    all_goals (first | (simp [hle]; done) | (simp only [hle, decide_true, decide_false, Bool.true_and, Bool.false_and]; rfl))
  · have hle' : ¬ (p.size : Int) ≤ (s.size : Int) := by omega
    go_enter Try.func34, Try.ntmps34
    go_wp2
    all_goals go_ret
    all_goals refine ⟨?_, rfl⟩
    all_goals (first | (simp [hle]; done) | (simp only [hle, decide_true, decide_false, Bool.true_and, Bool.false_and]; rfl))
theorem hp32_calls (s p : ByteArray) (w : World) (hs : s.size ≤ 1000000000) (hp : p.size ≤ 1000000000) :
    Calls Try.prog 32 #[.string s, .string p] w fun e w' => e = .returned (.bool (decide (p.size ≤ s.size) && ((s.extract 0 p.size).toList == p.toList))) ∧ w = w' := by
  go_enter Try.func32, Try.ntmps32
  go_wp2_with (first | (go_at_call 34; refine (hp34_calls s p _ hs hp).mono ?_; rintro e w_ ⟨rfl, rfl⟩))
  go_ret
  exact ⟨rfl, rfl⟩
end Go.Proofs.Ytfflfadfalacgaa.SLib
