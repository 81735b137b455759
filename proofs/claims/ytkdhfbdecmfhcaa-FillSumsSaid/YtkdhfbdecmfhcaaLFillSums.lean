/- Proved: the law FillSums, called with what the form hands it, returns true and leaves old memory as it was (what words in lines cost is told alike by both); its conditions: the widths and the room are bytes. -/
import Derived.Test.YtkdhfbdecmfhcaaFWords
namespace Go.Proofs.Ytkdhfbdecmfhcaa.LFillSums
open Go.RowKit Go.Proofs.YtkdhfbdecmfhcaaW.PrintWords Go.Proofs.YtkdhfbdecmfhcaaW.PrintLast Go.Proofs.YtkdhfbdecmfhcaaW.PrintMore Go.Proofs.Ytkdhfbdecmfhcaa.FMath Go.Proofs.Ytkdhfbdecmfhcaa.FPlain Go.Proofs.Ytkdhfbdecmfhcaa.FWalks Go.Proofs.Ytkdhfbdecmfhcaa.FLines Go.Proofs.Ytkdhfbdecmfhcaa.FRef Go.Proofs.Ytkdhfbdecmfhcaa.FWords
set_option linter.unusedVariables false
set_option linter.unusedSimpArgs false
set_option maxHeartbeats 4000000 in
set_option maxRecDepth 100000 in
theorem fillSums_calls (A : Option Addr) (c : Nat) (l : List Int) {w : World} (hR : (Kd.int .u8).C w A l.length l) (hm : l.length ≤ maxLen) (hw : ∀ x ∈ l, (Lit.int .u8 x).wf = true) (hc : l.length ≤ c) (B : Option Addr) (d : Nat) (m : List Int) (hM : (Kd.int .i64).C w B m.length m) (hmm : m.length ≤ maxLen) (hmw : ∀ x ∈ m, (Lit.int .i64 x).wf = true) (hd : m.length ≤ d) (a : Int) (ha : (Lit.int .u8 a).wf = true) :
    Calls Try.prog 4 #[.slice A l.length c, .slice B m.length d, .int .u8 a] w fun e w' => e = .returned (.bool true) ∧ Below w.heap.size w w' := by
  have HR := Aside0.mk hR
  have HWF := Aside0.mk hw
  have HB := Aside0.mk (Below.refl w.heap.size w)
  obtain ⟨er, a0, a1⟩ := room_of ha
  clear hR hw hm hc ha
  have HM := Aside0.mk (And.intro hM hd)
  have HMW := Aside0.mk (show Wf m from fun x hx => i64_of (hmw x hx))
  clear hM hd hmw hmm
  by_cases hg : 40 < l.length
  · have hd : decide ((40 : Int) < (l.length : Int)) = true := decide_eq_true (by omega)
    go_enter Try.func4, Try.ntmps4
    go_wp2_with (first | (go_at_call 12; refine (words_calls _).mono ?_; rintro e w_ ⟨rfl, hb⟩; have HBb := Aside0.mk (below_step HB.out hb); clear HB; have HB := HBb; clear HBb hb))
    go_ret
    exact ⟨rfl, HB.out⟩
  · have hd : decide ((40 : Int) < (l.length : Int)) = false := decide_eq_false (by omega)
    have hBy : Bytes l := ⟨by omega, fun x hx => u8_of (HWF.out x hx)⟩
    have HBy := Aside0.mk hBy
    have HG := Aside0.mk (good_wds hBy)
    have hle : (wds l).length ≤ 40 := by unfold wds; rw [List.length_map]; omega
    have hln : l.length ≤ 40 := by omega
    clear hBy hg
    obtain ⟨q, hq⟩ : ∃ q, q = wds l := ⟨_, rfl⟩
    rw [← hq] at HG hle
    have HQ := Aside0.mk hq
    clear hq
    by_cases hg2 : 40 < m.length
    · have hd2 : decide ((40 : Int) < (m.length : Int)) = true := decide_eq_true (by omega)
      go_enter Try.func4, Try.ntmps4
      go_wp2_with (first | (go_at_call 12; refine (words_calls _).mono ?_; rintro e w_ ⟨rfl, hb⟩; have HBb := Aside0.mk (below_step HB.out hb); clear HB; have HB := HBb; clear HBb; clear hb))
      go_ret
      exact ⟨rfl, HB.out⟩
    · have hd2 : decide ((40 : Int) < (m.length : Int)) = false := decide_eq_false (by omega)
      have hml : m.length ≤ 40 := by omega
      obtain ⟨cv, hcv⟩ : ∃ cv, cv = (res 0 (sumW (a + 1) q m)).1 := ⟨_, rfl⟩
      obtain ⟨cb, hcb⟩ : ∃ cb, cb = (res 0 (sumW (a + 1) q m)).2 := ⟨_, rfl⟩
      have HV := Aside0.mk hcv
      have HVB := Aside0.mk hcb
      clear hcv hcb
      have hbb : (cb == cb) = true := by simp
      go_enter Try.func4, Try.ntmps4
      go_wp2_with (first
        | (go_at_call 12; refine (words_calls _).mono ?_; rintro e w_ ⟨rfl, hb⟩; have HBb := Aside0.mk (below_step HB.out hb); clear HB; have HB := HBb; clear HBb; clear hb)
        | (go_at_call 13; refine (widths_calls A c l _ (Kd.C_below HR.out HB.out) HBy.out).mono ?_; rintro e w_ ⟨v_, rfl, ho, hb⟩; rw [← HQ.out] at ho; obtain ⟨Aq, cq, e_, hle_, hC_⟩ := Kd.R_reads ho; subst e_; have HC := Aside0.mk (And.intro hC_ hle_); have HBb := Aside0.mk (below_step HB.out hb); clear HB; have HB := HBb; clear HBb hb ho hC_ hle_)
        | (go_at_call 16; refine (sum_calls Aq B cq d q m (a + 1) _ HC.out.1 HC.out.2 (Kd.C_below HM.out.1 HB.out) HM.out.2 HG.out (by omega) HMW.out (by omega) (by omega)).mono ?_; rintro e w_ ⟨rfl, rfl⟩; rw [← HV.out, ← HVB.out])
        | (go_at_call 17; refine (refsum_calls Aq B cq d q m (a + 1) _ HC.out.1 HC.out.2 (Kd.C_below HM.out.1 HB.out) HM.out.2 HG.out (by omega) HMW.out (by omega) (by omega)).mono ?_; rintro e w_ ⟨rfl, rfl⟩; rw [← HV.out, ← HVB.out]))
      go_ret
      exact ⟨rfl, HB.out⟩
end Go.Proofs.Ytkdhfbdecmfhcaa.LFillSums
