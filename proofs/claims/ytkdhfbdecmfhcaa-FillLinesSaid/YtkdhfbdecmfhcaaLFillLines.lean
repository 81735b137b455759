/- Proved: the law FillLines, called with what the form hands it, returns true and leaves old memory as it was (both part the words alike); its conditions: the widths and the room are bytes. -/
import Derived.Test.YtkdhfbdecmfhcaaFWords
import Derived.Test.YtkdhfbdecmfhcaaFRefLines
namespace Go.Proofs.Ytkdhfbdecmfhcaa.LFillLines
open Go.RowKit Go.Proofs.YtkdhfbdecmfhcaaW.PrintWords Go.Proofs.YtkdhfbdecmfhcaaW.PrintLast Go.Proofs.YtkdhfbdecmfhcaaW.PrintMore Go.Proofs.Ytkdhfbdecmfhcaa.FMath Go.Proofs.Ytkdhfbdecmfhcaa.FPlain Go.Proofs.Ytkdhfbdecmfhcaa.FWalks Go.Proofs.Ytkdhfbdecmfhcaa.FLines Go.Proofs.Ytkdhfbdecmfhcaa.FRef Go.Proofs.Ytkdhfbdecmfhcaa.FWords Go.Proofs.Ytkdhfbdecmfhcaa.FRefLines
set_option linter.unusedVariables false
set_option linter.unusedSimpArgs false
set_option maxHeartbeats 4000000 in
set_option maxRecDepth 100000 in
theorem fillLines_calls (A : Option Addr) (c : Nat) (l : List Int) {w : World} (hR : (Kd.int .u8).C w A l.length l) (hm : l.length ≤ maxLen) (hw : ∀ x ∈ l, (Lit.int .u8 x).wf = true) (hc : l.length ≤ c) (a : Int) (ha : (Lit.int .u8 a).wf = true) :
    Calls Try.prog 5 #[.slice A l.length c, .int .u8 a] w fun e w' => e = .returned (.bool true) ∧ Below w.heap.size w w' := by
  have HR := Aside0.mk hR
  have HWF := Aside0.mk hw
  have HB := Aside0.mk (Below.refl w.heap.size w)
  obtain ⟨er, a0, a1⟩ := room_of ha
  clear hR hw hm hc ha
  by_cases hg : 60 < l.length
  · have hd : decide ((60 : Int) < (l.length : Int)) = true := decide_eq_true (by omega)
    go_enter Try.func5, Try.ntmps5
    go_wp2_with (first | (go_at_call 12; refine (words_calls _).mono ?_; rintro e w_ ⟨rfl, hb⟩; have HBb := Aside0.mk (below_step HB.out hb); clear HB; have HB := HBb; clear HBb hb))
    go_ret
    exact ⟨rfl, HB.out⟩
  · have hd : decide ((60 : Int) < (l.length : Int)) = false := decide_eq_false (by omega)
    have hBy : Bytes l := ⟨by omega, fun x hx => u8_of (HWF.out x hx)⟩
    have HBy := Aside0.mk hBy
    have HG := Aside0.mk (good_wds hBy)
    have hle : (wds l).length ≤ 60 := by unfold wds; rw [List.length_map]; omega
    have hln : l.length ≤ 60 := by omega
    clear hBy hg
    obtain ⟨q, hq⟩ : ∃ q, q = wds l := ⟨_, rfl⟩
    rw [← hq] at HG hle
    have HQ := Aside0.mk hq
    clear hq
    go_enter Try.func5, Try.ntmps5
    obtain ⟨ln, hln⟩ : ∃ ln, ln = lns (a + 1) q.length q := ⟨_, rfl⟩
    have hlw := lns_wf (r := a + 1) HG.out (by omega) (by omega)
    have hsm := lns_sum (a + 1) (by omega) (by omega) q.length q (by omega) HG.out.1 HG.out.one
    rw [← hln] at hlw hsm
    have HLN := Aside0.mk hln
    have HLW := Aside0.mk hlw.2
    have HSM := Aside0.mk hsm
    have hlc := hlw.1
    clear hln hlw hsm
    go_wp2_with (first
      | (go_at_call 12; refine (words_calls _).mono ?_; rintro e w_ ⟨rfl, hb⟩; have HBb := Aside0.mk (below_step HB.out hb); clear HB; have HB := HBb; clear HBb; clear hb)
      | (go_at_call 13; refine (widths_calls A c l _ (Kd.C_below HR.out HB.out) HBy.out).mono ?_; rintro e w_ ⟨v_, rfl, ho, hb⟩; rw [← HQ.out] at ho; obtain ⟨Aq, cq, e_, hle_, hC_⟩ := Kd.R_reads ho; subst e_; have HC := Aside0.mk (And.intro hC_ hle_); have HBb := Aside0.mk (below_step HB.out hb); clear HB; have HB := HBb; clear HBb hb ho hC_ hle_)
      | (go_at_call 19; refine (lines_calls Aq cq q (a + 1) _ HC.out.1 HC.out.2 HG.out (by omega) (by omega)).mono ?_; rintro e w_ ⟨v_, rfl, ho, hb⟩; rw [← HLN.out] at ho; obtain ⟨A1, c1, e_, hle_, hC_⟩ := Kd.R_reads ho; subst e_; have H1 := Aside0.mk (And.intro hC_ hle_); have HBb := Aside0.mk (below_step HB.out hb); clear HB; have HB := HBb; clear HBb; have K_ := Aside0.mk (And.intro (Kd.C_below HC.out.1 hb) HC.out.2); clear HC; have HC := K_; clear K_; clear hb ho hC_ hle_)
      | (go_at_call 20; refine (reflines_calls Aq cq q (a + 1) _ HC.out.1 HC.out.2 HG.out (by omega) (by omega)).mono ?_; rintro e w_ ⟨v_, rfl, ho, hb⟩; rw [← HLN.out] at ho; obtain ⟨A2, c2, e_, hle_, hC_⟩ := Kd.R_reads ho; subst e_; have H2 := Aside0.mk (And.intro hC_ hle_); have HBb := Aside0.mk (below_step HB.out hb); clear HB; have HB := HBb; clear HBb; have K_ := Aside0.mk (And.intro (Kd.C_below HC.out.1 hb) HC.out.2); clear HC; have HC := K_; clear K_; have K_ := Aside0.mk (And.intro (Kd.C_below H1.out.1 hb) H1.out.2); clear H1; have H1 := K_; clear K_; clear hb ho hC_ hle_)
      | (go_at_call 18; refine (same_calls A1 A2 c1 c2 ln _ H1.out.1 H2.out.1 hlc).mono ?_; rintro e w_ ⟨rfl, ⟨m_, rfl⟩⟩))
    go_ret
    exact ⟨rfl, pw_below_drewN HB.out _⟩
end Go.Proofs.Ytkdhfbdecmfhcaa.LFillLines
