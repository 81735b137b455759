/- Proved: the program's reader of layer 9: quote. -/
import Derived.Test.YtfflfadfalacgaaSBl
namespace Go.Proofs.Ytfflfadfalacgaa.SQu
open Go.RowKit Go.Proofs.YtfflfadfalacgaaW.PrintWords Go.Proofs.YtfflfadfalacgaaW.PrintLast Go.Proofs.YtfflfadfalacgaaW.PrintMore Go.Proofs.Ytfflfadfalacgaa.SMem Go.Proofs.Ytfflfadfalacgaa.SPlain Go.Proofs.Ytfflfadfalacgaa.SRef Go.Proofs.Ytfflfadfalacgaa.SRd Go.Proofs.Ytfflfadfalacgaa.SLib Go.Proofs.Ytfflfadfalacgaa.SParse Go.Proofs.Ytfflfadfalacgaa.SBl
set_option linter.unusedVariables false
set_option linter.unusedSimpArgs false
set_option maxHeartbeats 4000000
set_option maxRecDepth 100000
def hp (s p : ByteArray) : Bool := decide (p.size ≤ s.size) && ((s.extract 0 p.size).toList == p.toList)
def qs (s : ByteArray) : Int := if hp s { data := #[44, 64] } then 2 else if hp s { data := #[39] } then 1 else if hp s { data := #[96] } then 1 else if hp s { data := #[44] } then 1 else 0
theorem quote_calls (s : ByteArray) (w : World) (hs : s.size ≤ 1000000000) : Calls Try.prog 30 #[.string s] w fun e w' => e = .returned (.int .i64 (qs s)) ∧ w = w' := by
  obtain ⟨b1, e1⟩ : ∃ b, b = hp s { data := #[44, 64] } := ⟨_, rfl⟩
  obtain ⟨b2, e2⟩ : ∃ b, b = hp s { data := #[39] } := ⟨_, rfl⟩
  obtain ⟨b3, e3⟩ : ∃ b, b = hp s { data := #[96] } := ⟨_, rfl⟩
  obtain ⟨b4, e4⟩ : ∃ b, b = hp s { data := #[44] } := ⟨_, rfl⟩
  unfold qs
  rw [← e1, ← e2, ← e3, ← e4]
  have k1 : ∀ W, Calls Try.prog 32 #[.string s, .string { data := #[44, 64] }] W fun e w' => e = .returned (.bool b1) ∧ W = w' := fun W => by rw [e1]; exact hp32_calls s _ W hs (by decide)
  have k2 : ∀ W, Calls Try.prog 32 #[.string s, .string { data := #[39] }] W fun e w' => e = .returned (.bool b2) ∧ W = w' := fun W => by rw [e2]; exact hp32_calls s _ W hs (by decide)
  have k3 : ∀ W, Calls Try.prog 32 #[.string s, .string { data := #[96] }] W fun e w' => e = .returned (.bool b3) ∧ W = w' := fun W => by rw [e3]; exact hp32_calls s _ W hs (by decide)
  have k4 : ∀ W, Calls Try.prog 32 #[.string s, .string { data := #[44] }] W fun e w' => e = .returned (.bool b4) ∧ W = w' := fun W => by rw [e4]; exact hp32_calls s _ W hs (by decide)
  have K1 := Aside0.mk k1
  have K2 := Aside0.mk k2
  have K3 := Aside0.mk k3
  have K4 := Aside0.mk k4
  clear k1 k2 k3 k4 e1 e2 e3 e4
  go_enter Try.func30, Try.ntmps30
  cases b1 <;> cases b2 <;> cases b3 <;> cases b4
  all_goals go_wp2_with (first | (go_at_call 32; refine (K1.out _).mono ?_; rintro e w_ ⟨rfl, rfl⟩) | (go_at_call 32; refine (K2.out _).mono ?_; rintro e w_ ⟨rfl, rfl⟩) | (go_at_call 32; refine (K3.out _).mono ?_; rintro e w_ ⟨rfl, rfl⟩) | (go_at_call 32; refine (K4.out _).mono ?_; rintro e w_ ⟨rfl, rfl⟩))
  all_goals go_ret
  all_goals exact ⟨rfl, rfl⟩
end Go.Proofs.Ytfflfadfalacgaa.SQu
