/- Proved: the reference's Least and Lines, and the law's own widths and same, each answer what a plain function tells, for words' widths from 1 to 23 (at most 1000) and rooms from 0 to 600, and leave old memory as it was. -/
import Derived.Test.YtkdhfbdecmfhcaaFWalks
namespace Go.Proofs.Ytkdhfbdecmfhcaa.FRef
open Go.RowKit Go.Proofs.YtkdhfbdecmfhcaaW.PrintWords Go.Proofs.YtkdhfbdecmfhcaaW.PrintLast Go.Proofs.YtkdhfbdecmfhcaaW.PrintMore Go.Proofs.Ytkdhfbdecmfhcaa.FMath Go.Proofs.Ytkdhfbdecmfhcaa.FPlain Go.Proofs.Ytkdhfbdecmfhcaa.FWalks
set_option linter.unusedVariables false
set_option linter.unusedSimpArgs false
set_option maxHeartbeats 4000000 in
set_option maxRecDepth 100000 in
theorem widths_calls (A : Option Addr) (c : Nat) (l : List Int) (w : World) (hR : (Kd.int .u8).C w A l.length l) (hl : Bytes l) :
    Calls Try.prog 13 #[.slice A l.length c] w fun e w' => ∃ v, e = .returned v ∧ Kd.R (Kd.int .i64) 3 w' w.heap.size (fun _ => True) v (wds l) ∧ Below w.heap.size w w' := by
  have HR := Aside0.mk hR
  have HL := Aside0.mk hl
  have hn := hl.1
  clear hR hl
  have HB := Aside0.mk (Below.refl w.heap.size w)
  go_enter Try.func13, Try.ntmps13
  go_wp2
  go_loopg [3, 4] l.length (fun kq v3 v4 w' => ∃ (i : Int), v4 = .int .i64 i ∧ Aside0 (i = (l.length : Int) - kq ∧ 0 ≤ i) ∧ Aside0 (Kd.R (Kd.int .i64) 3 w' w.heap.size (fun _ => True) v3 (wds (l.take i.toNat))) ∧ Aside0 (Below w.heap.size w w'))
  case atStart => exact ⟨0, rfl, ⟨by omega, by omega⟩, ⟨Kd.R_nil _ _ _ _ _⟩, HB⟩
  case round =>
    clear HB
    obtain ⟨i0, rfl, HI, HO, HB⟩ := hrel
    obtain ⟨i, rfl⟩ := Int.eq_ofNat_of_zero_le HI.out.2
    rw [Int.toNat_natCast] at HO
    by_cases hlt : i < l.length
    · obtain ⟨ad, ea, hx⟩ := at_nat HR.out i hlt
      cases ea
      replace hx := (HB.out.cell (World.block_lt_of_cell? w _ hx)).trans hx
      have hm : l.getD i 0 ∈ l := by rw [List.getD_eq_getElem?_getD, List.getElem?_eq_getElem hlt]; simp
      have hb := HL.out.2 _ hm
      have e : wds (l.take (i + 1)) = wds (l.take i) ++ [l.getD i 0 % 23 + 1] := by
        unfold wds
        rw [List.take_succ_eq_append_getElem hlt, List.map_append]
        congr 1
        simp [List.getD_eq_getElem?_getD, List.getElem?_eq_getElem hlt]
      have HE := Aside0.mk e
      have LM := Aside0.mk (show (wds (l.take i)).length ≤ 1000 by simp [wds]; omega)
      clear e hm
      generalize hv : l.getD i 0 = v at hx hb HE
      clear hv
      have hb0 := hb.1
      have hb1 := hb.2
      clear hb
      have HLT := Aside0.mk hlt
      have hv23 : 0 ≤ v % 23 := by omega
      have hv24 : v % 23 ≤ 22 := by omega
      go_wp2_with (first | ((with_reducible refine gate_builtin (b := .append) (xs := #[.tmp 11, .tmp 19]) rfl ?_); at_builtin; refine Kd.R_append (Kd.int .i64) (w0 := w) w.heap.size rfl (.tmp 11) (.tmp 19) 24 3 (.int .i64 0) 8 rfl Try.underlying24 info3 rfl (by decide) (by omega) u3 (wds (l.take i)) (v % 23 + 1) [.int .i64 (v % 23 + 1)] (fun _ => True) (fun _ => False) rfl rfl ?aP1 (fun _ hk => hk.elim) ?aF1 ?aO1 ?aB1 ?aS1 ?aL1 ?_; (case aP1 => exact rfl); (case aB1 => exact (by repeat (first | (with_reducible first | exact HB.out | apply below_alloc | apply pw_below_drewN | apply below_drew1) | exact HB.out))); (case aF1 => exact (fun k_ hk => trivial)); (case aO1 => exact (by (with_reducible repeat (first | apply Kd.R_alloc | apply Kd.R_drewN | apply Kd.R_drew)); exact HO.out)); (case aS1 => exact (below_size (by repeat (first | (with_reducible first | exact HB.out | apply below_alloc | apply pw_below_drewN | apply below_drew1) | exact HB.out)))); (case aL1 => have := LM.out; omega); intro v4 w4 ho hb hg hat; have HOb := Aside0.mk ho; have HBb := Aside0.mk hb; clear HB HO ho hb hg hat; have HO := HOb; have HB := HBb; clear HOb HBb))
      go_roundg (l.length - (i + 1))
      case measure => have := HI.out; have := HLT.out; omega
      case rel => exact ⟨(i : Int) + 1, by go_num, ⟨by have := HLT.out; omega, by omega⟩, ⟨by rw [show ((i : Int) + 1).toNat = i + 1 by omega, HE.out]; exact HO.out⟩, HB⟩
    · have e : l.take i = l := List.take_of_length_le (by omega)
      rw [e] at HO
      have hnl : decide ((i : Int) < (l.length : Int)) = false := decide_eq_false (by omega)
      go_wp2
      go_ret
      exact ⟨_, rfl, HO.out, HB.out⟩
set_option maxHeartbeats 4000000 in
set_option maxRecDepth 100000 in
theorem same_calls (A B : Option Addr) (c d : Nat) (l : List Int) (w : World) (hR : (Kd.int .i64).C w A l.length l) (hM : (Kd.int .i64).C w B l.length l) (hn : l.length ≤ 1000) :
    Calls Try.prog 18 #[.slice A l.length c, .slice B l.length d] w fun e w' => e = .returned (.bool true) ∧ Drawn0 w w' := by
  have HR := Aside0.mk hR
  have HM := Aside0.mk hM
  clear hR hM
  have he : ((l.length : Int) != (l.length : Int)) = false := by simp
  go_enter Try.func18, Try.ntmps18
  go_wp2
  repeat (go_quiet (fail); try go_wp2)
  go_loopg [5] l.length (fun kq v5 w' => ∃ (i : Int), v5 = .int .i64 i ∧ Aside0 (i = (l.length : Int) - kq ∧ 0 ≤ i) ∧ Drawn0 w w')
  case atStart => exact ⟨0, rfl, ⟨by omega, by omega⟩, by repeat (first | exact Drawn0.refl _ | apply Drawn0.step)⟩
  case round =>
    obtain ⟨i0, rfl, HI, ⟨m1, rfl⟩⟩ := hrel
    obtain ⟨i, rfl⟩ := Int.eq_ofNat_of_zero_le HI.out.2
    by_cases hlt : i < l.length
    · obtain ⟨ad, ea, hx⟩ := at_nat HR.out i hlt
      obtain ⟨ad2, ea2, hx2⟩ := at_nat HM.out i hlt
      cases ea
      cases ea2
      have HLT := Aside0.mk hlt
      generalize hv : l.getD i 0 = v at hx hx2
      clear hv
      have hvv : (v != v) = false := by simp
      have p1 : ((i : Int) < (l.length : Int)) = True := eq_true (by omega)
      go_wp2
      repeat (go_quiet (fail); try go_wp2)
      go_roundg (l.length - (i + 1))
      case measure => have := HI.out; have := HLT.out; omega
      case rel => exact ⟨(i : Int) + 1, by go_num, ⟨by have := HLT.out; omega, by omega⟩, by repeat (first | exact Drawn0.refl _ | apply Drawn0.step)⟩
    · have hnl : decide ((i : Int) < (l.length : Int)) = false := decide_eq_false (by omega)
      go_wp2
      go_ret
      exact ⟨rfl, by repeat (first | exact Drawn0.refl _ | apply Drawn0.step)⟩
end Go.Proofs.Ytkdhfbdecmfhcaa.FRef
