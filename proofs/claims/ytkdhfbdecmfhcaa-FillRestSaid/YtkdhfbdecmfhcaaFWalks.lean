/- Proved: the program's fill.Cost and fill.Sum, the reference's Cost and Sum, and the law's own widths and same, each answer what a plain function tells, for words' widths from 1 to 23 (at most 1000) and rooms from 0 to 600, and leave old memory as it was. -/
import Derived.Test.YtkdhfbdecmfhcaaProg
import Derived.Below
import Derived.Deep.Draws
import Derived.Deep.AppendLies
import Derived.Maps.AppendAt
import Derived.OwnWalk
import Derived.Laws.BytesArg
import Derived.Laws.MakeOwn
import Derived.Laws.OwnMore
import Derived.Deep.OwnRows
import Derived.Tactics
import Derived.Lib.ConvBytes
import Derived.Laws.Slices
import Derived.WalkKit
import Derived.KernelRfl
import Derived.RowKit3
import Derived.Deep.LoopGhost
import Derived.Deep.QuietTactic
import Derived.BigQuiet
import Derived.WideLaws
import Derived.Deep.DeepCutAuto
import Derived.Deep.CutBlock
import Derived.Deep.RegionHeld3
import Derived.Laws.Rows
import Derived.Lib.AppendStr
import Derived.ArgAppend
import Derived.Laws.IdiomCopy
import Derived.OrdersHeld
import Derived.Laws.BitsLemmas
import Derived.RowKit
import Derived.Test.YtkdhfbdecmfhcaaWWords
import Derived.Test.YtkdhfbdecmfhcaaWLast
import Derived.Test.YtkdhfbdecmfhcaaWTab
import Derived.Test.YtkdhfbdecmfhcaaWFour
import Derived.Test.YtkdhfbdecmfhcaaWQPut
import Derived.Test.YtkdhfbdecmfhcaaWApart
import Derived.Test.YtkdhfbdecmfhcaaWArr
import Derived.Test.YtkdhfbdecmfhcaaWZeros
import Derived.Test.YtkdhfbdecmfhcaaWFoot
import Derived.Test.YtkdhfbdecmfhcaaWKept
import Derived.Test.YtkdhfbdecmfhcaaWShare
import Derived.Test.YtkdhfbdecmfhcaaWN
import Derived.Test.YtkdhfbdecmfhcaaWFootNe
import Derived.Test.YtkdhfbdecmfhcaaWAt
import Derived.Test.YtkdhfbdecmfhcaaWEqStruct
import Derived.Test.YtkdhfbdecmfhcaaWRepsOne
import Derived.Test.YtkdhfbdecmfhcaaWInv
import Derived.Test.YtkdhfbdecmfhcaaWInvWords
import Derived.Test.YtkdhfbdecmfhcaaWGuard
import Derived.Test.YtkdhfbdecmfhcaaFPlain
namespace Go.Proofs.Ytkdhfbdecmfhcaa.FWalks
open Go.RowKit Go.Proofs.YtkdhfbdecmfhcaaW.PrintWords Go.Proofs.YtkdhfbdecmfhcaaW.PrintLast Go.Proofs.YtkdhfbdecmfhcaaW.PrintMore Go.Proofs.Ytkdhfbdecmfhcaa.FMath Go.Proofs.Ytkdhfbdecmfhcaa.FPlain
set_option linter.unusedVariables false
set_option linter.unusedSimpArgs false
theorem w64 {x : Int} (h1 : -9223372036854775808 ≤ x) (h2 : x < 9223372036854775808) : IntKind.i64.wrap x = x := by rw [i64_w]; exact wrap_of h1 h2
theorem info3 : (Try.prog.info? 3).map (fun i => (i.zero, i.size, i.bytes)) = some (some (.int .i64 0), 1, 8) := by kernel_rfl
theorem at_nat {k : IntKind} {w : World} {A : Option Addr} {n : Nat} {xs : List Int} (h : (Kd.int k).C w A n xs) (i : Nat) (h1 : i < n) : ∃ ad, A = some ad ∧ w.cell? (ad.add i) = some (.int k (xs.getD i 0)) := by
  obtain ⟨ad, e, hc⟩ := Kd.at_int h (i : Int) (by omega) (by omega)
  rw [rd_nat, Int.toNat_natCast] at hc
  exact ⟨ad, e, hc⟩
set_option maxHeartbeats 4000000 in
set_option maxRecDepth 100000 in
theorem cost_calls (A : Option Addr) (c : Nat) (l : List Int) (r : Int) (w : World) (hR : (Kd.int .i64).C w A l.length l) (hc : l.length ≤ c) (hl : Fine l) (h0 : 0 ≤ r) (hr : r ≤ 600) :
    Calls Try.prog 14 #[.slice A l.length c, .int .i64 r] w fun e w' => e = .returned (.tuple #[.int .i64 (costOf l r).1, .bool (costOf l r).2]) ∧ w = w' := by
  have HR := Aside0.mk hR
  have HL := Aside0.mk hl
  have hn := hl.1
  clear hR hl hc
  go_enter Try.func14, Try.ntmps14
  go_wp2
  go_loopg [6, 14] l.length (fun kq v6 v14 w' => ∃ (s : Int) (i : Int), v6 = .int .i64 s ∧ v14 = .int .i64 i ∧ Aside0 (i = (l.length : Int) - kq ∧ 0 ≤ i) ∧ Aside0 (s = (l.length : Int) + wid l i.toNat - i) ∧ Aside0 (w = w'))
  case atStart => exact ⟨_, _, rfl, rfl, ⟨by omega, by omega⟩, ⟨by simp [wid]; omega⟩, ⟨rfl⟩⟩
  case round =>
    obtain ⟨s, i0, rfl, rfl, HI, HS, HW⟩ := hrel
    obtain ⟨i, rfl⟩ := Int.eq_ofNat_of_zero_le HI.out.2
    obtain rfl := HW.out
    rw [Int.toNat_natCast] at HS
    by_cases hlt : i < l.length
    · obtain ⟨ad, ea, hx⟩ := at_nat HR.out i hlt
      cases ea
      have hb := wid_bd HL.out i (by omega)
      have hg := HL.out.at hlt
      have hs := Aside0.mk (wid_succ l i hlt)
      have hbs : -1 ≤ s := by rw [HS.out]; omega
      have hbs2 : s ≤ 30000 := by rw [HS.out]; omega
      have HLT := Aside0.mk hlt
      generalize hv : l.getD i 0 = v at hx hg hs
      clear hv hb
      go_wp2
      go_roundg (l.length - (i + 1))
      case measure => have := HI.out; have := HLT.out; omega
      case rel => exact ⟨s + v, (i : Int) + 1, by go_num, by go_num, ⟨by have := HLT.out; omega, by omega⟩, ⟨by rw [HS.out, show ((i : Int) + 1).toNat = i + 1 by omega, hs.out]; omega⟩, ⟨rfl⟩⟩
    · have e : i = l.length := by have := HI.out; omega
      subst e
      have hb := wid_bd HL.out l.length (by omega)
      obtain ⟨u, hu⟩ : ∃ u, u = wid l l.length := ⟨_, rfl⟩
      have es : s = u := by rw [HS.out, hu]; omega
      subst es
      rw [← hu] at hb
      have HU := Aside0.mk hu
      clear hu HS
      have hb1 := hb.1
      have hb2 := hb.2
      clear hb HI
      by_cases z : l.length = 0
      · have hz : ((l.length : Int) == 0) = true := by rw [z]; rfl
        have HZ := Aside0.mk z
        clear z
        go_wp2
        go_ret2
        exact ⟨by unfold costOf; rw [if_pos HZ.out]; rfl, rfl⟩
      · have hz : ((l.length : Int) == 0) = false := by rw [beq_eq_false_iff_ne]; omega
        have HZ := Aside0.mk z
        clear z
        by_cases y : r < s
        · have HY := Aside0.mk y
          by_cases o : l.length = 1
          · have ho : ((l.length : Int) == 1) = true := by rw [o]; rfl
            have HO := Aside0.mk o
            clear o
            go_wp2
            go_ret2
            exact ⟨by unfold costOf; rw [if_neg HZ.out, if_pos (by rw [← HU.out]; have := HY.out; omega), decide_eq_true HO.out]; rfl, rfl⟩
          · have ho : ((l.length : Int) == 1) = false := by rw [beq_eq_false_iff_ne]; omega
            have HO := Aside0.mk o
            clear o
            go_wp2
            go_ret2
            exact ⟨by unfold costOf; rw [if_neg HZ.out, if_pos (by rw [← HU.out]; have := HY.out; omega), decide_eq_false HO.out]; rfl, rfl⟩
        · have hq := sq_bd (x := r - s) (by omega) (by omega)
          have hq1 := hq.1
          have hq2 := hq.2
          have HY := Aside0.mk y
          clear hq
          go_wp2
          go_ret2
          exact ⟨by unfold costOf; rw [if_neg HZ.out, if_neg (by rw [← HU.out]; have := HY.out; omega), ← HU.out]; rfl, rfl⟩
set_option maxHeartbeats 4000000 in
set_option maxRecDepth 100000 in
theorem refcost_calls (A : Option Addr) (c : Nat) (l : List Int) (r : Int) (w : World) (hR : (Kd.int .i64).C w A l.length l) (hc : l.length ≤ c) (hl : Fine l) (h0 : 0 ≤ r) (hr : r ≤ 600) :
    Calls Try.prog 15 #[.slice A l.length c, .int .i64 r] w fun e w' => e = .returned (.tuple #[.int .i64 (costOf l r).1, .bool (costOf l r).2]) ∧ w = w' := by
  have HR := Aside0.mk hR
  have HL := Aside0.mk hl
  have hn := hl.1
  clear hR hl hc
  by_cases z : l.length = 0
  · have hz : ((l.length : Int) == 0) = true := by rw [z]; rfl
    have HZ := Aside0.mk z
    clear z
    go_enter Try.func15, Try.ntmps15
    go_wp2
    go_ret2
    exact ⟨by unfold costOf; rw [if_pos HZ.out]; rfl, rfl⟩
  · have hz : ((l.length : Int) == 0) = false := by rw [beq_eq_false_iff_ne]; omega
    have HZ := Aside0.mk z
    clear z
    go_enter Try.func15, Try.ntmps15
    go_wp2
    go_loopg [6, 7] l.length (fun kq v6 v7 w' => ∃ (s : Int) (i : Int), v6 = .int .i64 s ∧ v7 = .int .i64 i ∧ Aside0 (i = (l.length : Int) - kq ∧ 0 ≤ i) ∧ Aside0 (s = r - wid l i.toNat) ∧ Aside0 (w = w'))
    case atStart => exact ⟨_, _, rfl, rfl, ⟨by omega, by omega⟩, ⟨by simp [wid]⟩, ⟨rfl⟩⟩
    case round =>
      obtain ⟨s, i0, rfl, rfl, HI, HS, HW⟩ := hrel
      obtain ⟨i, rfl⟩ := Int.eq_ofNat_of_zero_le HI.out.2
      obtain rfl := HW.out
      rw [Int.toNat_natCast] at HS
      by_cases hlt : i < l.length
      · obtain ⟨ad, ea, hx⟩ := at_nat HR.out i hlt
        cases ea
        have hb := wid_bd HL.out i (by omega)
        have hg := HL.out.at hlt
        have hs := Aside0.mk (wid_succ l i hlt)
        have hbs : -30000 ≤ s := by rw [HS.out]; omega
        have hbs2 : s ≤ 30000 := by rw [HS.out]; omega
        have HLT := Aside0.mk hlt
        generalize hv : l.getD i 0 = v at hx hg hs
        clear hv hb
        go_wp2
        go_roundg (l.length - (i + 1))
        case measure => have := HI.out; have := HLT.out; omega
        case rel => exact ⟨s - (v + 1), (i : Int) + 1, by go_num, by go_num, ⟨by have := HLT.out; omega, by omega⟩, ⟨by rw [HS.out, show ((i : Int) + 1).toNat = i + 1 by omega, hs.out]; omega⟩, ⟨rfl⟩⟩
      · have e : i = l.length := by have := HI.out; omega
        subst e
        have hb := wid_bd HL.out l.length (by omega)
        have hb1 : -30000 ≤ s := by rw [HS.out]; omega
        have hb2 : s ≤ 601 := by rw [HS.out]; omega
        clear hb HI
        by_cases y : s < 0
        · have HY := Aside0.mk y
          by_cases o : l.length = 1
          · have ho : ((l.length : Int) == 1) = true := by rw [o]; rfl
            have HO := Aside0.mk o
            clear o
            go_wp2
            go_ret2
            exact ⟨by unfold costOf; rw [if_neg HZ.out, if_pos (by have := HS.out; have := HY.out; omega), decide_eq_true HO.out]; rfl, rfl⟩
          · have ho : ((l.length : Int) == 1) = false := by rw [beq_eq_false_iff_ne]; omega
            have HO := Aside0.mk o
            clear o
            go_wp2
            go_ret2
            exact ⟨by unfold costOf; rw [if_neg HZ.out, if_pos (by have := HS.out; have := HY.out; omega), decide_eq_false HO.out]; rfl, rfl⟩
        · have hq := sq_bd (x := s) (by omega) (by omega)
          have hq1 := hq.1
          have hq2 := hq.2
          have HY := Aside0.mk y
          clear hq
          go_wp2
          go_ret2
          exact ⟨by unfold costOf; rw [if_neg HZ.out, if_neg (by have := HS.out; have := HY.out; omega), ← HS.out]; rfl, rfl⟩
theorem cut_C {w : World} {A : Option Addr} {c : Nat} {l : List Int} (h : (Kd.int .i64).C w A l.length l) (hc : l.length ≤ c) (a b : Nat) (h1 : a ≤ b) (h2 : b ≤ l.length) :
    ∃ A' : Option Addr, (∀ W : World, (Instr.slice 24 (.slice A l.length c) (some (.int .i64 (a : Int))) (some (.int .i64 (b : Int))) none).run Try.prog W = .ok (.slice A' (b - a) (c - a)) W) ∧
      (Kd.int .i64).C w A' ((l.drop a).take (b - a)).length ((l.drop a).take (b - a)) ∧ ((l.drop a).take (b - a)).length = b - a ∧ b - a ≤ c - a := by
  obtain ⟨i0, hi, _, hsz, _⟩ := info_parts info3
  have e := cut_mid (P := Try.prog) 24 3 .i64 .i64 Try.underlying24 hi 1 hsz A l.length c (a : Int) (b : Int) (by omega) (by omega) (by omega) hc
  have hC := Kd.C_mid h h1 h2 hc
  have el : (l.take b).drop a = (l.drop a).take (b - a) := by rw [List.drop_take]
  rw [el] at hC
  refine ⟨_, fun W => ?_, hC, by simp; omega, by omega⟩
  rw [e W, Int.toNat_natCast, Int.toNat_natCast]; rfl
theorem to_C {w : World} {A : Option Addr} {c : Nat} {l : List Int} (h : (Kd.int .i64).C w A l.length l) (hc : l.length ≤ c) (b : Nat) (h2 : b ≤ l.length) :
    (∀ W : World, (Instr.slice 24 (.slice A l.length c) none (some (.int .i64 (b : Int))) none).run Try.prog W = .ok (.slice A b c) W) ∧
      (Kd.int .i64).C w A (l.take b).length (l.take b) ∧ (l.take b).length = b ∧ b ≤ c := by
  obtain ⟨i0, hi, _, hsz, _⟩ := info_parts info3
  have e := cut_to (P := Try.prog) 24 3 .i64 Try.underlying24 hi A l.length c (b : Int) (by omega) (by omega) hc
  refine ⟨fun W => ?_, Kd.C_take h h2, by simp; omega, by omega⟩
  rw [e W, Int.toNat_natCast]
theorem from_C {w : World} {A : Option Addr} {c : Nat} {l : List Int} (h : (Kd.int .i64).C w A l.length l) (hc : l.length ≤ c) (a : Nat) (h2 : a ≤ l.length) :
    ∃ A' : Option Addr, (∀ W : World, (Instr.slice 24 (.slice A l.length c) (some (.int .i64 (a : Int))) none none).run Try.prog W = .ok (.slice A' (l.length - a) (c - a)) W) ∧
      (Kd.int .i64).C w A' (l.drop a).length (l.drop a) ∧ (l.drop a).length = l.length - a ∧ l.length - a ≤ c - a := by
  obtain ⟨i0, hi, _, hsz, _⟩ := info_parts info3
  have e := cut_from (P := Try.prog) 24 3 .i64 Try.underlying24 hi 1 hsz A l.length c (a : Int) (by omega) (by omega)
  refine ⟨_, fun W => ?_, Kd.C_drop h h2 hc, by simp, by omega⟩
  rw [e W, Int.toNat_natCast]; rfl
theorem sum_end {l lines : List Int} {r sum : Int} {p i : Nat} (h : res 0 (sumW r l lines) = res sum (sumW r (l.drop p) (lines.drop i))) (hi : lines.length ≤ i) (hp : p ≤ l.length) :
    res 0 (sumW r l lines) = if p < l.length then (0, false) else (sum, true) := by
  rw [h, List.drop_of_length_le hi]
  unfold sumW
  by_cases z : p < l.length
  · have hz : ¬ l.drop p = [] := by simp; omega
    rw [if_neg hz, if_pos z]; rfl
  · have hz : l.drop p = [] := by simp; omega
    rw [if_pos hz, if_neg z]; simp [res]
theorem sum_bad {l lines : List Int} {r sum x : Int} {p i : Nat} (h : res 0 (sumW r l lines) = res sum (sumW r (l.drop p) (lines.drop i))) (hi : i < lines.length) (hx : lines.getD i 0 = x)
    (hb : ¬ (1 ≤ x ∧ x ≤ (l.length : Int) - p ∧ (x = 1 ∨ wid (l.drop p) x.toNat ≤ r))) (hp : p ≤ l.length) : res 0 (sumW r l lines) = (0, false) := by
  have hdl : (l.drop p).length = l.length - p := by simp
  rw [h, drop_at lines i hi, hx, sumW_bad (by rw [hdl]; omega)]; rfl
theorem sum_next {l lines : List Int} {r sum : Int} {p i t : Nat} (h : res 0 (sumW r l lines) = res sum (sumW r (l.drop p) (lines.drop i))) (hi : i < lines.length) (hx : lines.getD i 0 = (t : Int)) (h1 : 1 ≤ t) (h2 : p + t ≤ l.length) (h3 : t = 1 ∨ wid (l.drop p) t ≤ r) :
    res 0 (sumW r l lines) = res (if i + 1 < lines.length then sum + lc r (wid (l.drop p) t) false else sum) (sumW r (l.drop (p + t)) (lines.drop (i + 1))) := by
  have hdl : (l.drop p).length = l.length - p := by simp
  rw [h, drop_at lines i hi, hx, sumW_go h1 (by rw [hdl]; omega) h3, List.drop_drop]
  by_cases h4 : i + 1 < lines.length
  · have e : (lines.drop (i + 1)).isEmpty = false := by rw [Bool.eq_false_iff]; simp; omega
    rw [e, if_pos h4]
  · have e : (lines.drop (i + 1)).isEmpty = true := by simp; omega
    have z : lc r (wid (l.drop p) t) true = 0 := rfl
    rw [e, if_neg h4, z, Int.add_zero]
set_option maxHeartbeats 4000000 in
set_option maxRecDepth 100000 in
theorem sum_calls (A B : Option Addr) (c d : Nat) (l lines : List Int) (r : Int) (w : World) (hR : (Kd.int .i64).C w A l.length l) (hc : l.length ≤ c) (hM : (Kd.int .i64).C w B lines.length lines) (hd : lines.length ≤ d) (hl : Fine l) (hm : lines.length ≤ 1000) (hw : Wf lines) (h0 : 0 ≤ r) (hr : r ≤ 600) :
    Calls Try.prog 16 #[.slice A l.length c, .slice B lines.length d, .int .i64 r] w fun e w' => e = .returned (.tuple #[.int .i64 (res 0 (sumW r l lines)).1, .bool (res 0 (sumW r l lines)).2]) ∧ w = w' := by
  have HR := Aside0.mk hR
  have HM := Aside0.mk hM
  have HC := Aside0.mk hc
  have HL := Aside0.mk hl
  have HW := Aside0.mk hw
  have hn := hl.1
  clear hR hl hc hM hd hw
  obtain ⟨V, hV⟩ : ∃ V, V = res 0 (sumW r l lines) := ⟨_, rfl⟩
  rw [← hV]
  have HV := Aside0.mk hV
  clear hV
  go_enter Try.func16, Try.ntmps16
  go_wp2
  go_loopg [8, 9, 16] lines.length (fun kq v8 v9 v16 w' => ∃ (sum p i : Int), v8 = .int .i64 sum ∧ v9 = .int .i64 p ∧ v16 = .int .i64 i ∧ Aside0 (i = (lines.length : Int) - kq ∧ 0 ≤ i) ∧ Aside0 (0 ≤ p ∧ p ≤ l.length) ∧ Aside0 (0 ≤ sum ∧ sum ≤ i * 361201) ∧ Aside0 (V = res sum (sumW r (l.drop p.toNat) (lines.drop i.toNat))) ∧ Aside0 (w = w'))
  case atStart => exact ⟨_, _, _, rfl, rfl, rfl, ⟨by omega, by omega⟩, ⟨by omega, by omega⟩, ⟨by omega, by omega⟩, HV, ⟨rfl⟩⟩
  case round =>
    obtain ⟨sum, p0, i0, rfl, rfl, rfl, HI, HP, HS, HE, HQ⟩ := hrel
    obtain ⟨i, rfl⟩ := Int.eq_ofNat_of_zero_le HI.out.2
    obtain ⟨p, rfl⟩ := Int.eq_ofNat_of_zero_le HP.out.1
    obtain rfl := HQ.out
    rw [Int.toNat_natCast, Int.toNat_natCast] at HE
    rw [HV.out] at HE
    have hpl : p ≤ l.length := by have := HP.out.2; omega
    have hil : i ≤ 1000 := by have := HI.out; omega
    have hs0 := HS.out.1
    have hs1 : sum ≤ 361201000 := by have := HS.out.2; omega
    by_cases hlt : i < lines.length
    · obtain ⟨ad, ea, hx⟩ := at_nat HM.out i hlt
      cases ea
      obtain ⟨x, hxv⟩ : ∃ x, lines.getD i 0 = x := ⟨_, rfl⟩
      have hwx := HW.out x (by rw [← hxv, List.getD_eq_getElem?_getD, List.getElem?_eq_getElem hlt]; simp)
      rw [hxv] at hx
      have HX := Aside0.mk hxv
      have HLT := Aside0.mk hlt
      clear hxv
      have hlt' : (i : Int) < (lines.length : Int) := by omega
      by_cases h1 : x < 1
      · have HV2 := Aside0.mk (sum_bad HE.out hlt HX.out (by omega) hpl)
        clear hwx
        have hd1 : decide (x < 1) = true := decide_eq_true h1
        go_wp2
        go_ret2
        exact ⟨by rw [HV.out, HV2.out]; rfl, rfl⟩
      · obtain ⟨t, rfl⟩ := Int.eq_ofNat_of_zero_le (show 0 ≤ x by omega)
        have hd1 : decide ((t : Int) < 1) = false := decide_eq_false h1
        by_cases h2 : (l.length : Int) - p < t
        · have HV2 := Aside0.mk (sum_bad HE.out hlt HX.out (by omega) hpl)
          clear hwx
          have hd2 : decide ((l.length : Int) - p < (t : Int)) = true := decide_eq_true h2
          go_wp2
          go_ret2
          exact ⟨by rw [HV.out, HV2.out]; rfl, rfl⟩
        · have hd2 : decide ((l.length : Int) - p < (t : Int)) = false := decide_eq_false h2
          have hpt : p + t ≤ l.length := by omega
          clear hwx h2
          obtain ⟨A', hcut, hC', hlen, hle⟩ := cut_C HR.out HC.out p (p + t) (by omega) hpt
          rw [show p + t - p = t by omega] at hcut hC' hlen hle
          have hline := costOf_line (l := l.drop p) (r := r) (t := t) (by omega) (by simp; omega)
          have hg2 : Fine ((l.drop p).take t) := (HL.out.drop p).take t
          have hcc := cost_calls A' (c - p) ((l.drop p).take t) r w hC' (by omega) hg2 h0 hr
          rw [hlen, hline] at hcc
          have hcut2 : ∀ W : World, (Instr.slice 24 (.slice A l.length c) (some (.int .i64 (p : Int))) (some (.int .i64 ((p : Int) + t))) none).run Try.prog W = .ok (.slice A' t (c - p)) W := by
            intro W; have := hcut W; rwa [show ((p + t : Nat) : Int) = (p : Int) + t by omega] at this
          clear hcut hC' hlen hle hg2 hline
          have hlcb := lc_bd (HL.out.drop p) h0 hr t (by simp; omega) false
          by_cases h3 : t = 1 ∨ wid (l.drop p) t ≤ r
          · rw [if_pos h3] at hcc
            have HN := Aside0.mk (sum_next HE.out hlt HX.out (by omega) hpt h3)
            generalize hcv : lc r (wid (l.drop p) t) false = cv at hcc HN hlcb
            clear hcv
            have hl0 := hlcb.1
            have hl1 := hlcb.2
            have HCC := Aside0.mk hcc
            clear hcc hlcb h3
            by_cases h4 : (i : Int) < (lines.length : Int) - 1
            · have hd4 : decide ((i : Int) < (lines.length : Int) - 1) = true := decide_eq_true h4
              have HN2 := HN.out
              rw [if_pos (by omega)] at HN2
              have HN3 := Aside0.mk HN2
              clear HN2 HN
              go_wp2_with (go_at_call 14; refine HCC.out.mono ?_; rintro e w' ⟨rfl, rfl⟩)
              go_roundg (lines.length - (i + 1))
              case measure => have := HI.out; have := HLT.out; omega
              case rel => exact ⟨sum + cv, (p : Int) + t, (i : Int) + 1, by go_num, by go_num, by go_num, ⟨by have := HLT.out; omega, by omega⟩, ⟨by omega, by omega⟩, ⟨by omega, by have := HS.out; omega⟩, ⟨by rw [HV.out, show ((p : Int) + t).toNat = p + t by omega, show ((i : Int) + 1).toNat = i + 1 by omega]; exact HN3.out⟩, ⟨rfl⟩⟩
            · have hd4 : decide ((i : Int) < (lines.length : Int) - 1) = false := decide_eq_false h4
              have HN2 := HN.out
              rw [if_neg (by omega)] at HN2
              have HN3 := Aside0.mk HN2
              clear HN2 HN
              go_wp2_with (go_at_call 14; refine HCC.out.mono ?_; rintro e w' ⟨rfl, rfl⟩)
              go_roundg (lines.length - (i + 1))
              case measure => have := HI.out; have := HLT.out; omega
              case rel => exact ⟨sum, (p : Int) + t, (i : Int) + 1, by go_num, by go_num, by go_num, ⟨by have := HLT.out; omega, by omega⟩, ⟨by omega, by omega⟩, ⟨by omega, by have := HS.out; omega⟩, ⟨by rw [HV.out, show ((p : Int) + t).toNat = p + t by omega, show ((i : Int) + 1).toNat = i + 1 by omega]; exact HN3.out⟩, ⟨rfl⟩⟩
          · have HV2 := Aside0.mk (sum_bad HE.out hlt HX.out (by rw [Int.toNat_natCast]; omega) hpl)
            rw [if_neg h3] at hcc
            have HCC := Aside0.mk hcc
            clear hcc hlcb h3
            go_wp2_with (go_at_call 14; refine HCC.out.mono ?_; rintro e w' ⟨rfl, rfl⟩)
            go_ret2
            exact ⟨by rw [HV.out, HV2.out]; rfl, rfl⟩
    · have hv := sum_end HE.out (by omega) hpl
      rw [← HV.out] at hv
      have hnl : decide ((i : Int) < (lines.length : Int)) = false := decide_eq_false (by omega)
      by_cases z : p < l.length
      · rw [if_pos z] at hv
        have HV2 := Aside0.mk hv
        clear hv
        have hz : decide ((p : Int) < (l.length : Int)) = true := decide_eq_true (by omega)
        go_wp2
        go_ret2
        exact ⟨by rw [HV2.out]; rfl, rfl⟩
      · rw [if_neg z] at hv
        have HV2 := Aside0.mk hv
        clear hv
        have hz : decide ((p : Int) < (l.length : Int)) = false := decide_eq_false (by omega)
        go_wp2
        go_ret2
        exact ⟨by rw [HV2.out]; rfl, rfl⟩
set_option maxHeartbeats 4000000 in
set_option maxRecDepth 100000 in
theorem refsum_calls (A B : Option Addr) (c d : Nat) (l lines : List Int) (r : Int) (w : World) (hR : (Kd.int .i64).C w A l.length l) (hc : l.length ≤ c) (hM : (Kd.int .i64).C w B lines.length lines) (hd : lines.length ≤ d) (hl : Fine l) (hm : lines.length ≤ 1000) (hw : Wf lines) (h0 : 0 ≤ r) (hr : r ≤ 600) :
    Calls Try.prog 17 #[.slice A l.length c, .slice B lines.length d, .int .i64 r] w fun e w' => e = .returned (.tuple #[.int .i64 (res 0 (sumW r l lines)).1, .bool (res 0 (sumW r l lines)).2]) ∧ w = w' := by
  have HR := Aside0.mk hR
  have HM := Aside0.mk hM
  have HC := Aside0.mk hc
  have HL := Aside0.mk hl
  have HW := Aside0.mk hw
  have hn := hl.1
  clear hR hl hc hM hd hw
  obtain ⟨V, hV⟩ : ∃ V, V = res 0 (sumW r l lines) := ⟨_, rfl⟩
  rw [← hV]
  have HV := Aside0.mk hV
  clear hV
  go_enter Try.func17, Try.ntmps17
  go_wp2
  go_loopg [0, 8, 9] lines.length (fun kq v0 v8 v9 w' => ∃ (A' : Option Addr) (c' : Nat) (q : List Int) (sum p i : Int), v0 = .slice A' q.length c' ∧ v8 = .int .i64 sum ∧ v9 = .int .i64 i ∧ Aside0 (i = (lines.length : Int) - kq ∧ 0 ≤ i) ∧ Aside0 (0 ≤ p ∧ p ≤ l.length) ∧ Aside0 (q = l.drop p.toNat) ∧ Aside0 ((Kd.int .i64).C w A' q.length q ∧ q.length ≤ c') ∧ Aside0 (0 ≤ sum ∧ sum ≤ i * 361201) ∧ Aside0 (V = res sum (sumW r (l.drop p.toNat) (lines.drop i.toNat))) ∧ Aside0 (w = w'))
  case atStart => exact ⟨A, c, l, 0, 0, 0, rfl, rfl, rfl, ⟨by omega, by omega⟩, ⟨by omega, by omega⟩, ⟨rfl⟩, ⟨HR.out, HC.out⟩, ⟨by omega, by omega⟩, HV, ⟨rfl⟩⟩
  case round =>
    obtain ⟨A', c', q, sum, p0, i0, rfl, rfl, rfl, HI, HP, HQD, HQC, HS, HE, HQ⟩ := hrel
    obtain ⟨i, rfl⟩ := Int.eq_ofNat_of_zero_le HI.out.2
    obtain ⟨p, rfl⟩ := Int.eq_ofNat_of_zero_le HP.out.1
    obtain rfl := HQ.out
    rw [Int.toNat_natCast, Int.toNat_natCast] at HE
    rw [Int.toNat_natCast] at HQD
    rw [HV.out] at HE
    have hpl : p ≤ l.length := by have := HP.out.2; omega
    have hil : i ≤ 1000 := by have := HI.out; omega
    have hs0 := HS.out.1
    have hs1 : sum ≤ 361201000 := by have := HS.out.2; omega
    have hql : q.length = l.length - p := by rw [HQD.out]; simp
    have HQL := Aside0.mk hql
    have hqn : q.length ≤ 1000 := by omega
    clear hql
    by_cases hlt : i < lines.length
    · obtain ⟨ad, ea, hx⟩ := at_nat HM.out i hlt
      cases ea
      obtain ⟨x, hxv⟩ : ∃ x, lines.getD i 0 = x := ⟨_, rfl⟩
      have hwx := HW.out x (by rw [← hxv, List.getD_eq_getElem?_getD, List.getElem?_eq_getElem hlt]; simp)
      rw [hxv] at hx
      have HX := Aside0.mk hxv
      have HLT := Aside0.mk hlt
      clear hxv
      have hlt' : (i : Int) < (lines.length : Int) := by omega
      by_cases h1 : x < 1
      · have HV2 := Aside0.mk (sum_bad HE.out hlt HX.out (by omega) hpl)
        clear hwx
        have hd1 : decide (x < 1) = true := decide_eq_true h1
        go_wp2
        go_ret2
        exact ⟨by rw [HV.out, HV2.out]; rfl, rfl⟩
      · obtain ⟨t, rfl⟩ := Int.eq_ofNat_of_zero_le (show 0 ≤ x by omega)
        have hd1 : decide ((t : Int) < 1) = false := decide_eq_false h1
        by_cases h2 : q.length < t
        · have HV2 := Aside0.mk (sum_bad HE.out hlt HX.out (by have := HQL.out; omega) hpl)
          clear hwx
          go_wp2
          go_ret2
          exact ⟨by rw [HV.out, HV2.out]; rfl, rfl⟩
        · have hd2 : decide (q.length < t) = false := decide_eq_false h2
          have htq : t ≤ q.length := by omega
          have hpt : p + t ≤ l.length := by have := HQL.out; omega
          clear hwx h2
          obtain ⟨hcut, hC', hlen, hle⟩ := to_C HQC.out.1 HQC.out.2 t htq
          obtain ⟨A2, hcut2, hC2, hlen2, hle2⟩ := from_C HQC.out.1 HQC.out.2 t htq
          rw [← hlen2] at hcut2
          have HC2 := Aside0.mk (And.intro hC2 (by omega : (q.drop t).length ≤ c' - t))
          have hline := costOf_line (l := q) (r := r) (t := t) (by omega) htq
          have hfq : Fine q := by rw [HQD.out]; exact HL.out.drop p
          have hcc := refcost_calls A' c' (q.take t) r w hC' (by omega) (hfq.take t) h0 hr
          rw [hlen, hline, HQD.out] at hcc
          clear hC' hlen hle hline hC2 hlen2 hle2 hfq
          have hlcb := lc_bd (HL.out.drop p) h0 hr t (by simp; omega) false
          by_cases h3 : t = 1 ∨ wid (l.drop p) t ≤ r
          · rw [if_pos h3] at hcc
            have HN := Aside0.mk (sum_next HE.out hlt HX.out (by omega) hpt h3)
            generalize hcv : lc r (wid (l.drop p) t) false = cv at hcc HN hlcb
            clear hcv
            have hl0 := hlcb.1
            have hl1 := hlcb.2
            have HCC := Aside0.mk hcc
            clear hcc hlcb h3
            by_cases h4 : (i : Int) < (lines.length : Int) - 1
            · have hd4 : decide ((i : Int) < (lines.length : Int) - 1) = true := decide_eq_true h4
              have HN2 := HN.out
              rw [if_pos (by omega)] at HN2
              have HN3 := Aside0.mk HN2
              clear HN2 HN
              go_wp2_with (go_at_call 15; refine HCC.out.mono ?_; rintro e w' ⟨rfl, rfl⟩)
              go_roundg (lines.length - (i + 1))
              case measure => have := HI.out; have := HLT.out; omega
              case rel => exact ⟨A2, c' - t, q.drop t, sum + cv, (p : Int) + t, (i : Int) + 1, by rw [List.length_drop], by go_num, by go_num, ⟨by have := HLT.out; omega, by omega⟩, ⟨by omega, by omega⟩, ⟨by rw [HQD.out, List.drop_drop]; congr 1⟩, HC2, ⟨by omega, by have := HS.out; omega⟩, ⟨by rw [HV.out, show ((p : Int) + t).toNat = p + t by omega, show ((i : Int) + 1).toNat = i + 1 by omega]; exact HN3.out⟩, ⟨rfl⟩⟩
            · have hd4 : decide ((i : Int) < (lines.length : Int) - 1) = false := decide_eq_false h4
              have HN2 := HN.out
              rw [if_neg (by omega)] at HN2
              have HN3 := Aside0.mk HN2
              clear HN2 HN
              go_wp2_with (go_at_call 15; refine HCC.out.mono ?_; rintro e w' ⟨rfl, rfl⟩)
              go_roundg (lines.length - (i + 1))
              case measure => have := HI.out; have := HLT.out; omega
              case rel => exact ⟨A2, c' - t, q.drop t, sum, (p : Int) + t, (i : Int) + 1, by rw [List.length_drop], by go_num, by go_num, ⟨by have := HLT.out; omega, by omega⟩, ⟨by omega, by omega⟩, ⟨by rw [HQD.out, List.drop_drop]; congr 1⟩, HC2, ⟨by omega, by have := HS.out; omega⟩, ⟨by rw [HV.out, show ((p : Int) + t).toNat = p + t by omega, show ((i : Int) + 1).toNat = i + 1 by omega]; exact HN3.out⟩, ⟨rfl⟩⟩
          · have HV2 := Aside0.mk (sum_bad HE.out hlt HX.out (by rw [Int.toNat_natCast]; omega) hpl)
            rw [if_neg h3] at hcc
            have HCC := Aside0.mk hcc
            clear hcc hlcb h3
            go_wp2_with (go_at_call 15; refine HCC.out.mono ?_; rintro e w' ⟨rfl, rfl⟩)
            go_ret2
            exact ⟨by rw [HV.out, HV2.out]; rfl, rfl⟩
    · have hv := sum_end HE.out (by omega) hpl
      rw [← HV.out] at hv
      have hnl : decide ((i : Int) < (lines.length : Int)) = false := decide_eq_false (by omega)
      by_cases z : 0 < q.length
      · rw [if_pos (by have := HQL.out; omega)] at hv
        have HV2 := Aside0.mk hv
        clear hv
        have hz : decide ((0 : Int) < (q.length : Int)) = true := decide_eq_true (by omega)
        go_wp2
        go_ret2
        exact ⟨by rw [HV2.out]; rfl, rfl⟩
      · rw [if_neg (by have := HQL.out; omega)] at hv
        have HV2 := Aside0.mk hv
        clear hv
        have hz : decide ((0 : Int) < (q.length : Int)) = false := decide_eq_false (by omega)
        go_wp2
        go_ret2
        exact ⟨by rw [HV2.out]; rfl, rfl⟩
end Go.Proofs.Ytkdhfbdecmfhcaa.FWalks
