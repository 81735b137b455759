/- Proved: the law's own text of layer 9 is made of its signs, one for each number; the numbers are bytes, at most 100000 of them. -/
import Derived.Test.YtfflfadfalacgaaSW
namespace Go.Proofs.Ytfflfadfalacgaa.STl
open Go.RowKit Go.Proofs.YtfflfadfalacgaaW.PrintWords Go.Proofs.YtfflfadfalacgaaW.PrintLast Go.Proofs.YtfflfadfalacgaaW.PrintMore
open Go.Proofs.Ytfflfadfalacgaa.SMem hiding Tok
open Go.Proofs.Ytfflfadfalacgaa.SPlain Go.Proofs.Ytfflfadfalacgaa.SRef Go.Proofs.Ytfflfadfalacgaa.SRd Go.Proofs.Ytfflfadfalacgaa.SParse Go.Proofs.Ytfflfadfalacgaa.STx Go.Proofs.Ytfflfadfalacgaa.SRead Go.Proofs.Ytfflfadfalacgaa.SW
set_option linter.unusedVariables false
set_option linter.unusedSimpArgs false
set_option maxHeartbeats 8000000
set_option maxRecDepth 100000
def sgn : List Int := [40, 40, 40, 41, 41, 41, 34, 92, 39, 96, 44, 44, 64, 97, 43, 49, 59, 32, 10, 127, 1]
def sg (x : Int) : Int := sgn.getD (x % 21).toNat 0
def txt (l : List Int) : List Int := l.map sg
theorem sg_byte (x : Int) : 0 ≤ sg x ∧ sg x ≤ 255 := by
  have h : ∀ n : Nat, n < 21 → 0 ≤ sgn.getD n 0 ∧ sgn.getD n 0 ≤ 255 := by decide
  exact h _ (by omega)
theorem txt_byte (l : List Int) : ByteL (txt l) := by
  intro y hy
  obtain ⟨x, _, rfl⟩ := List.mem_map.1 hy
  exact sg_byte x
theorem txt_length (l : List Int) : (txt l).length = l.length := by unfold txt; rw [List.length_map]
theorem sg_run (r : Int) (h0 : 0 ≤ r) (h1 : r < 21) (w : World) : (Instr.index 9 (.string ⟨#[40, 40, 40, 41, 41, 41, 34, 92, 39, 96, 44, 44, 64, 97, 43, 49, 59, 32, 10, 127, 1]⟩) (.int .i64 r)).run Try.prog w = .ok (.int .u8 (sgn.getD r.toNat 0)) w := by
  obtain ⟨n, rfl⟩ := Int.eq_ofNat_of_zero_le h0
  rw [Int.toNat_natCast]
  have hn : n < 21 := by omega
  have : n = 0 ∨ n = 1 ∨ n = 2 ∨ n = 3 ∨ n = 4 ∨ n = 5 ∨ n = 6 ∨ n = 7 ∨ n = 8 ∨ n = 9 ∨ n = 10 ∨ n = 11 ∨ n = 12 ∨ n = 13 ∨ n = 14 ∨ n = 15 ∨ n = 16 ∨ n = 17 ∨ n = 18 ∨ n = 19 ∨ n = 20 := by omega
  clear hn h0 h1
  rcases this with rfl | rfl | rfl | rfl | rfl | rfl | rfl | rfl | rfl | rfl | rfl | rfl | rfl | rfl | rfl | rfl | rfl | rfl | rfl | rfl | rfl <;> rfl
theorem text_calls (A : Option Addr) (c : Nat) (l : List Int) (w : World) (hR : (Kd.int .u8).C w A l.length l) (hb : ByteL l) (hn : l.length ≤ 100000) :
    Calls Try.prog 14 #[.slice A l.length c] w fun e w' => ∃ v, e = .returned v ∧ (Kd.int .u8).R 5 w' w.heap.size (fun _ => True) v (txt l) ∧ Below w.heap.size w w' := by
  have HR := Aside0.mk hR
  have HBY := Aside0.mk hb
  have HB := Aside0.mk (Below.refl w.heap.size w)
  clear hR hb
  go_enter Try.func14, Try.ntmps14
  go_wp2
  go_loopg [3, 4] l.length (fun kq v3 v4 w' => ∃ i : Nat, v4 = .int .i64 (i : Int) ∧ Aside0 (i + kq = l.length) ∧ Aside0 ((Kd.int .u8).R 5 w' w.heap.size (fun _ => True) v3 (txt (l.take i))) ∧ Aside0 (Below w.heap.size w w'))
  case atStart => exact ⟨0, rfl, ⟨by omega⟩, ⟨Kd.R_nil _ _ _ _ _⟩, HB⟩
  case round =>
    clear HB
    obtain ⟨i, rfl, HI, HO, HB⟩ := hrel
    have hi1 : (i : Int) ≤ 100000 := by have := HI.out; omega
    by_cases hlt : i < l.length
    · have HLT := Aside0.mk hlt
      have hlt' : decide ((i : Int) < (l.length : Int)) = true := decide_eq_true (by omega)
      obtain ⟨ad, ea, hx⟩ := at_nat HR.out i hlt
      cases ea
      replace hx := (HB.out.cell (World.block_lt_of_cell? w _ hx)).trans hx
      have hbx := HBY.out (l.getD i 0) (by rw [List.getD_eq_getElem?_getD, List.getElem?_eq_getElem hlt]; simp)
      have HTK := Aside0.mk (show txt (l.take (i + 1)) = txt (l.take i) ++ [sg (l.getD i 0)] by unfold txt; rw [List.take_succ_eq_append_getElem hlt, List.map_append, List.getD_eq_getElem?_getD, List.getElem?_eq_getElem hlt]; rfl)
      generalize l.getD i 0 = x at hx hbx HTK
      obtain ⟨hx0, hx1⟩ := hbx
      have p0 : (0 : Int) ≤ (i : Int) := by omega
      have p1 : (i : Int) < (l.length : Int) := by omega
      have hsg := fun w => sg_run (x % 21) (by omega) (by omega) w
      obtain ⟨A3, c3, e3, hle3, hC3⟩ := Kd.R_reads HO.out
      subst e3
      clear hle3 hC3
      have hsz : (txt (l.take i)).length ≤ 100000 := by rw [txt_length, List.length_take]; omega
      obtain ⟨y, hy⟩ : ∃ y, y = sg x := ⟨_, rfl⟩
      rw [show sgn.getD (x % 21).toNat 0 = y from hy.symm] at hsg
      rw [← hy] at HTK
      have HOx := HO
      generalize txt (l.take i) = t at HO HTK hsz HOx
      clear hy
      go_wp2_with (first | ((with_reducible refine gate_builtin (b := .append) (xs := #[.tmp 11, .tmp 19]) rfl ?_); at_builtin; refine Kd.R_append (Kd.int .u8) (w0 := w) w.heap.size rfl (.tmp 11) (.tmp 19) 22 5 (.int .u8 0) 1 rfl Try.underlying22 info5 rfl (by decide) (by omega) (.slice A3 t.length c3) t y [.int .u8 y] (fun _ => True) (fun _ => False) rfl rfl rfl (fun _ hk => hk.elim) (fun _ _ => trivial) HO.out HB.out (below_size HB.out) (by omega) ?_; intro v4 w4 ho hb hgr hat; have HO4 := Aside0.mk ho; have HB4 := Aside0.mk hb; clear ho hb hgr hat))
      go_roundg (l.length - (i + 1))
      case measure => have := HI.out; have := HLT.out; omega
      case rel => exact ⟨i + 1, by go_num, ⟨by have := HLT.out; omega⟩, ⟨by rw [HTK.out]; exact HO4.out⟩, HB4⟩
    · have hlt' : decide ((i : Int) < (l.length : Int)) = false := decide_eq_false (by omega)
      have hlt2 : decide (i < l.length) = false := decide_eq_false hlt
      have e : i = l.length := by have := HI.out; omega
      subst e
      have ho2 := HO.out
      rw [List.take_length] at ho2
      have HO2 := Aside0.mk ho2
      clear ho2
      go_wp2
      go_ret
      exact ⟨_, rfl, HO2.out, HB.out⟩
end Go.Proofs.Ytfflfadfalacgaa.STl
