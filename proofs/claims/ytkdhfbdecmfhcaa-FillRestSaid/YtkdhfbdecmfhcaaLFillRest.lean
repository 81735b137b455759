/- Proved: the law FillRest, called with what the form hands it, returns true and leaves old memory as it was (behind its first line a best way is the best way of the words that are left); its conditions: the widths and the room are bytes. -/
import Derived.Test.YtkdhfbdecmfhcaaFWords
import Derived.Deep.RegionHeld3
import Derived.Deep.DeepCutAuto
namespace Go.Proofs.Ytkdhfbdecmfhcaa.LFillRest
open Go.RowKit Go.Proofs.YtkdhfbdecmfhcaaW.PrintWords Go.Proofs.YtkdhfbdecmfhcaaW.PrintLast Go.Proofs.YtkdhfbdecmfhcaaW.PrintMore Go.Proofs.Ytkdhfbdecmfhcaa.FMath Go.Proofs.Ytkdhfbdecmfhcaa.FPlain Go.Proofs.Ytkdhfbdecmfhcaa.FWalks Go.Proofs.Ytkdhfbdecmfhcaa.FLines Go.Proofs.Ytkdhfbdecmfhcaa.FRef Go.Proofs.Ytkdhfbdecmfhcaa.FWords
set_option linter.unusedVariables false
set_option linter.unusedSimpArgs false
set_option maxHeartbeats 4000000 in
set_option maxRecDepth 100000 in
theorem fillRest_calls (A : Option Addr) (c : Nat) (l : List Int) {w : World} (hR : (Kd.int .u8).C w A l.length l) (hm : l.length ≤ maxLen) (hw : ∀ x ∈ l, (Lit.int .u8 x).wf = true) (hc : l.length ≤ c) (a : Int) (ha : (Lit.int .u8 a).wf = true) :
    Calls Try.prog 10 #[.slice A l.length c, .int .u8 a] w fun e w' => e = .returned (.bool true) ∧ Below w.heap.size w w' := by
  have HR := Aside0.mk hR
  have HWF := Aside0.mk hw
  have HB := Aside0.mk (Below.refl w.heap.size w)
  obtain ⟨er, a0, a1⟩ := room_of ha
  clear hR hw hm hc ha
  by_cases hg : 60 < l.length
  · have hd : decide ((60 : Int) < (l.length : Int)) = true := decide_eq_true (by omega)
    go_enter Try.func10, Try.ntmps10
    go_wp2_with (first | (go_at_call 12; refine (words_calls _).mono ?_; rintro e w_ ⟨rfl, hb⟩; have HBb := Aside0.mk (below_step HB.out hb); clear HB; have HB := HBb; clear HBb hb))
    go_ret
    exact ⟨rfl, HB.out⟩
  · have hd : decide ((60 : Int) < (l.length : Int)) = false := decide_eq_false (by omega)
    have hBy : Bytes l := ⟨by omega, fun x hx => u8_of (HWF.out x hx)⟩
    have HBy := Aside0.mk hBy
    have HG := Aside0.mk (good_wds hBy)
    have hle : (wds l).length ≤ 60 := by unfold wds; rw [List.length_map]; omega
    have hln : l.length ≤ 60 := by omega
    clear hBy hg
    obtain ⟨q, hq⟩ : ∃ q, q = wds l := ⟨_, rfl⟩
    rw [← hq] at HG hle
    have HQ := Aside0.mk hq
    clear hq
    go_enter Try.func10, Try.ntmps10
    obtain ⟨ln, hln⟩ : ∃ ln, ln = lns (a + 1) q.length q := ⟨_, rfl⟩
    have hlw := lns_wf (r := a + 1) HG.out (by omega) (by omega)
    have hsm := lns_sum (a + 1) (by omega) (by omega) q.length q (by omega) HG.out.1 HG.out.one
    rw [← hln] at hlw hsm
    have HLN := Aside0.mk hln
    have HLW := Aside0.mk hlw.2
    have HSM := Aside0.mk hsm
    have hlc := hlw.1
    clear hln hlw hsm
    by_cases hz : q = []
    · have hqb : ((q.length : Int) == 0) = true := by rw [hz]; rfl
      have hlb : ((ln.length : Int) == 0) = true := by rw [HLN.out, hz]; rfl
      clear hz
      go_wp2_with (first | (go_at_call 12; refine (words_calls _).mono ?_; rintro e w_ ⟨rfl, hb⟩; have HBb := Aside0.mk (below_step HB.out hb); clear HB; have HB := HBb; clear HBb; clear hb) | (go_at_call 13; refine (widths_calls A c l _ (Kd.C_below HR.out HB.out) HBy.out).mono ?_; rintro e w_ ⟨v_, rfl, ho, hb⟩; rw [← HQ.out] at ho; obtain ⟨Aq, cq, e_, hle_, hC_⟩ := Kd.R_reads ho; subst e_; have HQR := Aside0.mk (Kd.R_lower ho (below_size HB.out)); have HBb := Aside0.mk (below_step HB.out hb); clear HB; have HB := HBb; clear HBb; clear hb ho hC_ hle_) | (go_at_call 19; refine (lines_calls Aq cq q (a + 1) _ (Kd.R_reads' HQR.out).2.2 (Kd.R_reads' HQR.out).2.1 HG.out (by omega) (by omega)).mono ?_; rintro e w_ ⟨v_, rfl, ho, hb⟩; rw [← HLN.out] at ho; obtain ⟨A1, c1, e_, hle_, hC_⟩ := Kd.R_reads ho; subst e_; have H1 := Aside0.mk (Kd.R_lower ho (below_size HB.out)); have HBb := Aside0.mk (below_step HB.out hb); clear HB; have HB := HBb; clear HBb; have K_ := Aside0.mk (Kd.R_below HQR.out hb); clear HQR; have HQR := K_; clear K_; clear hb ho hC_ hle_))
      go_ret
      exact ⟨rfl, HB.out⟩
    · have hq0 : 0 < q.length := List.length_pos_iff.2 hz
      have hqb : ((q.length : Int) == 0) = false := by rw [beq_eq_false_iff_ne]; omega
      obtain ⟨t, BB⟩ := best (a + 1) (by omega) (by omega) q HG.out.1 hz HG.out.one
      have hst := lns_step (show 0 ≤ a + 1 by omega) (by omega) HG.out hz BB
      have ht1 := BB.ok.1
      have ht2 := BB.ok.2.1
      rw [← List.length_drop (i := t) (l := q), ← HLN.out] at hst
      obtain ⟨rs, hrs⟩ : ∃ rs, rs = lns (a + 1) (q.drop t).length (q.drop t) := ⟨_, rfl⟩
      rw [← hrs] at hst
      have HRS := Aside0.mk hrs
      have HST := Aside0.mk hst
      have hrl : rs.length ≤ 1000 := by rw [hrs]; exact (lns_wf (HG.out.drop t) (by omega) (by omega)).1
      have hlb : ((ln.length : Int) == 0) = false := by rw [hst]; simp; omega
      have hl0 : 0 < ln.length := by rw [hst]; simp
      have hd1 : decide ((t : Int) < 1) = false := decide_eq_false (by omega)
      have hd2 : decide ((q.length : Int) < (t : Int)) = false := decide_eq_false (by omega)
      have hd3 : decide (q.length < t) = false := decide_eq_false (by omega)
      have hl1 : (1 : Int) ≤ ln.length := by omega
      have htq : (t : Int) ≤ q.length := by omega
      clear hz hst hrs BB
      go_wp2_with (first | (go_at_call 12; refine (words_calls _).mono ?_; rintro e w_ ⟨rfl, hb⟩; have HBb := Aside0.mk (below_step HB.out hb); clear HB; have HB := HBb; clear HBb; clear hb) | (go_at_call 13; refine (widths_calls A c l _ (Kd.C_below HR.out HB.out) HBy.out).mono ?_; rintro e w_ ⟨v_, rfl, ho, hb⟩; rw [← HQ.out] at ho; obtain ⟨Aq, cq, e_, hle_, hC_⟩ := Kd.R_reads ho; subst e_; have HQR := Aside0.mk (Kd.R_lower ho (below_size HB.out)); have HBb := Aside0.mk (below_step HB.out hb); clear HB; have HB := HBb; clear HBb; clear hb ho hC_ hle_))
      go_wp2_with fail
      refine (lines_calls Aq cq q (a + 1) _ (Kd.R_reads' HQR.out).2.2 (Kd.R_reads' HQR.out).2.1 HG.out (by omega) (by omega)).mono ?_
      rintro e w_ ⟨v_, rfl, ho, hb⟩
      rw [← HLN.out] at ho
      obtain ⟨A1, c1, e_, hle_, hC_⟩ := Kd.R_reads ho
      subst e_
      have H1 := Aside0.mk (Kd.R_lower ho (below_size HB.out))
      have HBb := Aside0.mk (below_step HB.out hb)
      clear HB
      have HB := HBb
      clear HBb
      have K_ := Aside0.mk (Kd.R_below HQR.out hb)
      clear HQR
      have HQR := K_
      clear K_
      clear hb ho hC_ hle_
      obtain ⟨g1, c1', e1_, g_, g__, g___⟩ := Kd.R_form H1.out hl0
      cases e1_
      clear g_ g__ g___
      have k1 := (Kd.R_celln 0 H1.out (0 : Int) (by omega) (by omega)).1
      rw [show rdOf 0 ln (0 : Int) = (t : Int) from by rw [HST.out]; rfl, show (0 : Int).toNat = 0 from rfl] at k1
      obtain ⟨A5, hcut5, hC5, hlen5, hle5⟩ := from_C (Kd.R_reads' H1.out).2.2 (Kd.R_reads' H1.out).2.1 1 (by omega)
      obtain ⟨A3, hcut3, hC3, hlen3, hle3⟩ := from_C (Kd.R_reads' HQR.out).2.2 (Kd.R_reads' HQR.out).2.1 t ht2
      have hdr : ln.drop 1 = rs := by rw [HST.out]; rfl
      rw [hdr] at hC5 hlen5
      rw [← hlen5] at hcut5
      rw [← hlen3] at hcut3
      have hcut5' : ∀ W : World, (Instr.slice 24 (.slice (some ⟨g1, 0, none⟩) ln.length c1) (some (.int .i64 1)) none none).run Try.prog W = .ok (.slice A5 rs.length (c1 - 1)) W := hcut5
      have HC5 := Aside0.mk hC5
      have HC3 := Aside0.mk hC3
      have hle3' : (q.drop t).length ≤ cq - t := by omega
      have HFD := Aside0.mk (HG.out.drop t)
      generalize hqd : q.drop t = qd at hcut3 HC3 hle3' HFD HRS
      clear hqd hlen5 hlen3 hC5 hC3 hle5 hle3 hcut5 hdr
      go_upto_region 9 with (fail)
      go_region_held3 (fun w' => w'.cell? ⟨g1, 0, none⟩ = some (.int .i64 (t : Int))) (first | go_keep | exact (hb.cell (p := ⟨g1, 0, none⟩) (World.block_lt_of_cell? _ _ k1)).trans k1 | exact (show (w_.drewN m_).cell? ⟨g1, 0, none⟩ = some (.int .i64 (t : Int)) from (hb.cell (p := ⟨g1, 0, none⟩) (World.block_lt_of_cell? _ _ k1)).trans k1)) (first | (go_at_call 19; refine (lines_calls A3 (cq - t) qd (a + 1) _ (by first | exact HC3.out | exact Kd.C_drewN HC3.out _) hle3' HFD.out (by omega) (by omega)).mono ?_; rintro e w_ ⟨v_, rfl, ho, hb⟩; rw [← HRS.out] at ho; obtain ⟨A6, c6, e_, hle_, hC_⟩ := Kd.R_reads ho; subst e_; have HC6 := Aside0.mk hC_) | (go_at_call 18; refine (same_calls A5 A6 (c1 - 1) c6 rs _ (by first | exact Kd.C_below HC5.out hb | exact Kd.C_below (Kd.C_drew HC5.out) hb | exact Kd.C_below (Kd.C_drewN HC5.out _) hb) HC6.out hrl).mono ?_; rintro e w_2 ⟨rfl, ⟨m_, rfl⟩⟩))
      go_wp2
      go_ret
      exact ⟨rfl, by repeat (first | exact below_step (by repeat (first | exact HB.out | apply below_drew1)) hb | apply pw_below_drewN | apply below_drew1)⟩
end Go.Proofs.Ytkdhfbdecmfhcaa.LFillRest
