/- Plain: the text that the laws of layer 8 make of numbers: one sign for each. -/
import Derived.Test.YtdgdnccpginclaaJBase
namespace Go.Proofs.Ytdgdnccpginclaa.JTl
open Go.RowKit Go.Proofs.YtdgdnccpginclaaW.PrintWords Go.Proofs.YtdgdnccpginclaaW.PrintLast Go.Proofs.YtdgdnccpginclaaW.PrintMore
open Go.Proofs.Ytdgdnccpginclaa.JDefs Go.Proofs.Ytdgdnccpginclaa.JBase
set_option linter.unusedVariables false
set_option linter.unusedSimpArgs false
set_option maxHeartbeats 8000000
set_option maxRecDepth 100000
def sgn : List Int := [123, 125, 91, 93, 44, 58, 34, 34, 92, 117, 101, 45, 43, 46, 48, 49, 50, 51, 52, 53, 54, 55, 56, 57, 116, 114, 117, 101, 102, 97, 108, 115, 110, 32, 9, 10]
def sg (x : Int) : Int := sgn.getD (x % 36).toNat 0
def txt (l : List Int) : List Int := l.map sg
theorem sg_byte (x : Int) : 0 ≤ sg x ∧ sg x ≤ 255 := by
  have h : ∀ n : Nat, n < 36 → 0 ≤ sgn.getD n 0 ∧ sgn.getD n 0 ≤ 255 := by decide
  exact h _ (by omega)
theorem txt_byte (l : List Int) : ByteL (txt l) := by
  intro y hy
  obtain ⟨x, _, rfl⟩ := List.mem_map.1 hy
  exact sg_byte x
theorem txt_length (l : List Int) : (txt l).length = l.length := by unfold txt; rw [List.length_map]
theorem sg_run (r : Int) (h0 : 0 ≤ r) (h1 : r < 36) (w : World) : (Instr.index 9 (.string ⟨#[123, 125, 91, 93, 44, 58, 34, 34, 92, 117, 101, 45, 43, 46, 48, 49, 50, 51, 52, 53, 54, 55, 56, 57, 116, 114, 117, 101, 102, 97, 108, 115, 110, 32, 9, 10]⟩) (.int .i64 r)).run Try.prog w = .ok (.int .u8 (sgn.getD r.toNat 0)) w := by
  obtain ⟨n, rfl⟩ := Int.eq_ofNat_of_zero_le h0
  rw [Int.toNat_natCast]
  have hn : n < 36 := by omega
  have : n = 0 ∨ n = 1 ∨ n = 2 ∨ n = 3 ∨ n = 4 ∨ n = 5 ∨ n = 6 ∨ n = 7 ∨ n = 8 ∨ n = 9 ∨ n = 10 ∨ n = 11 ∨ n = 12 ∨ n = 13 ∨ n = 14 ∨ n = 15 ∨ n = 16 ∨ n = 17 ∨ n = 18 ∨ n = 19 ∨ n = 20 ∨ n = 21 ∨ n = 22 ∨ n = 23 ∨ n = 24 ∨ n = 25 ∨ n = 26 ∨ n = 27 ∨ n = 28 ∨ n = 29 ∨ n = 30 ∨ n = 31 ∨ n = 32 ∨ n = 33 ∨ n = 34 ∨ n = 35 := by omega
  clear hn h0 h1
  rcases this with rfl | rfl | rfl | rfl | rfl | rfl | rfl | rfl | rfl | rfl | rfl | rfl | rfl | rfl | rfl | rfl | rfl | rfl | rfl | rfl | rfl | rfl | rfl | rfl | rfl | rfl | rfl | rfl | rfl | rfl | rfl | rfl | rfl | rfl | rfl | rfl <;> rfl
theorem txt_step (l : List Int) (i : Nat) (h : i < l.length) : txt (l.take (i + 1)) = txt (l.take i) ++ [sg (l.getD i 0)] := by
  unfold txt; rw [List.take_succ_eq_append_getElem h, List.map_append, List.getD_eq_getElem?_getD, List.getElem?_eq_getElem h]; rfl
end Go.Proofs.Ytdgdnccpginclaa.JTl
