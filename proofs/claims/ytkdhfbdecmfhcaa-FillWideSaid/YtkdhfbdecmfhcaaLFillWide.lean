/- Proved: the law FillWide, called with what the form hands it, returns true and leaves old memory as it was (in a greater room the lesser one's way may be, too, and the best there costs no more); its conditions: the widths and the room are bytes. -/
import Derived.Test.YtkdhfbdecmfhcaaFWords
namespace Go.Proofs.Ytkdhfbdecmfhcaa.LFillWide
open Go.RowKit Go.Proofs.YtkdhfbdecmfhcaaW.PrintWords Go.Proofs.YtkdhfbdecmfhcaaW.PrintLast Go.Proofs.YtkdhfbdecmfhcaaW.PrintMore Go.Proofs.Ytkdhfbdecmfhcaa.FMath Go.Proofs.Ytkdhfbdecmfhcaa.FPlain Go.Proofs.Ytkdhfbdecmfhcaa.FWalks Go.Proofs.Ytkdhfbdecmfhcaa.FLines Go.Proofs.Ytkdhfbdecmfhcaa.FRef Go.Proofs.Ytkdhfbdecmfhcaa.FWords
set_option linter.unusedVariables false
set_option linter.unusedSimpArgs false
set_option maxHeartbeats 4000000 in
set_option maxRecDepth 100000 in
theorem fillWide_calls (A : Option Addr) (c : Nat) (l : List Int) {w : World} (hR : (Kd.int .u8).C w A l.length l) (hm : l.length ≤ maxLen) (hw : ∀ x ∈ l, (Lit.int .u8 x).wf = true) (hc : l.length ≤ c) (a : Int) (ha : (Lit.int .u8 a).wf = true) (b : Int) (hb8 : (Lit.int .u8 b).wf = true) :
    Calls Try.prog 11 #[.slice A l.length c, .int .u8 a, .int .u8 b] w fun e w' => e = .returned (.bool true) ∧ Below w.heap.size w w' := by
  have HR := Aside0.mk hR
  have HWF := Aside0.mk hw
  have HB := Aside0.mk (Below.refl w.heap.size w)
  obtain ⟨er, a0, a1⟩ := room_of ha
  clear hR hw hm hc ha
  have hb01 := u8_of hb8
  have hb0 := hb01.1
  have hb1 := hb01.2
  clear hb01 hb8
  by_cases hg : 40 < l.length
  · have hd : decide ((40 : Int) < (l.length : Int)) = true := decide_eq_true (by omega)
    go_enter Try.func11, Try.ntmps11
    go_wp2_with (first | (go_at_call 12; refine (words_calls _).mono ?_; rintro e w_ ⟨rfl, hb⟩; have HBb := Aside0.mk (below_step HB.out hb); clear HB; have HB := HBb; clear HBb hb))
    go_ret
    exact ⟨rfl, HB.out⟩
  · have hd : decide ((40 : Int) < (l.length : Int)) = false := decide_eq_false (by omega)
    have hBy : Bytes l := ⟨by omega, fun x hx => u8_of (HWF.out x hx)⟩
    have HBy := Aside0.mk hBy
    have HG := Aside0.mk (good_wds hBy)
    have hle : (wds l).length ≤ 40 := by unfold wds; rw [List.length_map]; omega
    have hln : l.length ≤ 40 := by omega
    clear hBy hg
    obtain ⟨q, hq⟩ : ∃ q, q = wds l := ⟨_, rfl⟩
    rw [← hq] at HG hle
    have HQ := Aside0.mk hq
    clear hq
    go_enter Try.func11, Try.ntmps11
    obtain ⟨ln, hln⟩ : ∃ ln, ln = lns (a + 1) q.length q := ⟨_, rfl⟩
    have hlw := lns_wf (r := a + 1) HG.out (by omega) (by omega)
    have hsm := lns_sum (a + 1) (by omega) (by omega) q.length q (by omega) HG.out.1 HG.out.one
    rw [← hln] at hlw hsm
    have HLN := Aside0.mk hln
    have HLW := Aside0.mk hlw.2
    have HSM := Aside0.mk hsm
    have hlc := hlw.1
    clear hln hlw hsm
    obtain ⟨l2, hl2⟩ : ∃ l2, l2 = lns (a + 1 + b) q.length q := ⟨_, rfl⟩
    have hlw := lns_wf (r := a + 1 + b) HG.out (by omega) (by omega)
    have hsm := lns_sum (a + 1 + b) (by omega) (by omega) q.length q (by omega) HG.out.1 HG.out.one
    rw [← hl2] at hlw hsm
    have hlw2 := hlw.1
    obtain ⟨s, hs⟩ := wider (a + 1) (a + 1 + b) (by omega) _ _ _ HSM.out
    have hle2 := least (a + 1 + b) (by omega) (by omega) _ _ _ HG.out.1 HG.out.one hs
    have hfew := few _ _ _ _ hsm
    have HL2 := Aside0.mk hl2
    have HLW2 := Aside0.mk hlw.2
    obtain ⟨bb, hbb⟩ : ∃ bb, bb = bst (a + 1 + b) q := ⟨_, rfl⟩
    rw [← hbb] at hle2 hsm
    have E1 := Aside0.mk (show res 0 (sumW (a + 1 + b) q ln) = (s, true) by rw [hs]; simp [res])
    have E2 := Aside0.mk (show res 0 (sumW (a + 1 + b) q l2) = (bb, true) by rw [hsm]; simp [res])
    clear hl2 hlw hsm hs hbb
    have hdb : decide (bb ≤ s) = true := decide_eq_true hle2
    have hdf : decide ((l2.length : Int) ≤ (q.length : Int)) = true := decide_eq_true (by omega)
    have hdf2 : decide (l2.length ≤ q.length) = true := decide_eq_true hfew
    go_wp2_with (first
      | (go_at_call 12; refine (words_calls _).mono ?_; rintro e w_ ⟨rfl, hb⟩; have HBb := Aside0.mk (below_step HB.out hb); clear HB; have HB := HBb; clear HBb; clear hb)
      | (go_at_call 13; refine (widths_calls A c l _ (Kd.C_below HR.out HB.out) HBy.out).mono ?_; rintro e w_ ⟨v_, rfl, ho, hb⟩; rw [← HQ.out] at ho; obtain ⟨Aq, cq, e_, hle_, hC_⟩ := Kd.R_reads ho; subst e_; have HC := Aside0.mk (And.intro hC_ hle_); have HBb := Aside0.mk (below_step HB.out hb); clear HB; have HB := HBb; clear HBb hb ho hC_ hle_))
    refine (lines_calls Aq cq q (a + 1) _ HC.out.1 HC.out.2 HG.out (by omega) (by omega)).mono ?_
    rintro e w_ ⟨v_, rfl, ho, hb⟩
    rw [← HLN.out] at ho
    obtain ⟨A1, c1, e_, hle_, hC_⟩ := Kd.R_reads ho
    subst e_
    have H1 := Aside0.mk (And.intro hC_ hle_)
    have HBb := Aside0.mk (below_step HB.out hb)
    clear HB
    have HB := HBb
    clear HBb
    have K_ := Aside0.mk (And.intro (Kd.C_below HC.out.1 hb) HC.out.2)
    clear HC
    have HC := K_
    clear K_
    clear hb ho hC_ hle_
    go_wp2_with fail
    refine (sum_calls Aq A1 cq c1 q ln (a + 1 + b) _ HC.out.1 HC.out.2 H1.out.1 H1.out.2 HG.out hlc HLW.out (by omega) (by omega)).mono ?_
    rintro e w_ ⟨rfl, rfl⟩
    rw [E1.out]
    go_wp2_with fail
    refine (refsum_calls Aq A1 cq c1 q ln (a + 1 + b) _ HC.out.1 HC.out.2 H1.out.1 H1.out.2 HG.out hlc HLW.out (by omega) (by omega)).mono ?_
    rintro e w_ ⟨rfl, rfl⟩
    rw [E1.out]
    go_wp2_with fail
    refine (lines_calls Aq cq q (a + 1 + b) _ HC.out.1 HC.out.2 HG.out (by omega) (by omega)).mono ?_
    rintro e w_ ⟨v_, rfl, ho, hb⟩
    rw [← HL2.out] at ho
    obtain ⟨A2, c2, e_, hle_, hC_⟩ := Kd.R_reads ho
    subst e_
    have H2 := Aside0.mk (And.intro hC_ hle_)
    have HBb := Aside0.mk (below_step HB.out hb)
    clear HB
    have HB := HBb
    clear HBb
    have K_ := Aside0.mk (And.intro (Kd.C_below HC.out.1 hb) HC.out.2)
    clear HC
    have HC := K_
    clear K_
    have K_ := Aside0.mk (And.intro (Kd.C_below H1.out.1 hb) H1.out.2)
    clear H1
    have H1 := K_
    clear K_
    clear hb ho hC_ hle_
    go_wp2_with fail
    refine (refsum_calls Aq A2 cq c2 q l2 (a + 1 + b) _ HC.out.1 HC.out.2 H2.out.1 H2.out.2 HG.out hlw2 HLW2.out (by omega) (by omega)).mono ?_
    rintro e w_ ⟨rfl, rfl⟩
    rw [E2.out]
    go_wp2_with fail
    refine (lines_calls Aq cq q (a + 1 + b) _ HC.out.1 HC.out.2 HG.out (by omega) (by omega)).mono ?_
    rintro e w_ ⟨v_, rfl, ho, hb⟩
    rw [← HL2.out] at ho
    obtain ⟨A3, c3, e_, hle_, hC_⟩ := Kd.R_reads ho
    subst e_
    have H3 := Aside0.mk (And.intro hC_ hle_)
    have HBb := Aside0.mk (below_step HB.out hb)
    clear HB
    have HB := HBb
    clear HBb
    have K_ := Aside0.mk (And.intro (Kd.C_below HC.out.1 hb) HC.out.2)
    clear HC
    have HC := K_
    clear K_
    have K_ := Aside0.mk (And.intro (Kd.C_below H1.out.1 hb) H1.out.2)
    clear H1
    have H1 := K_
    clear K_
    have K_ := Aside0.mk (And.intro (Kd.C_below H2.out.1 hb) H2.out.2)
    clear H2
    have H2 := K_
    clear K_
    clear hb ho hC_ hle_
    go_wp2_with fail
    go_ret
    exact ⟨rfl, HB.out⟩
end Go.Proofs.Ytkdhfbdecmfhcaa.LFillWide
