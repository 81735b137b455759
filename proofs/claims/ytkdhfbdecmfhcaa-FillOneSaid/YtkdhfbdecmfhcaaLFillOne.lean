/- Proved: the law FillOne, called with what the form hands it, returns true and leaves old memory as it was (what fits into one line is one line; where nothing fits beside anything each word has its own); its conditions: the widths and the room are bytes. -/
import Derived.Test.YtkdhfbdecmfhcaaFWords
namespace Go.Proofs.Ytkdhfbdecmfhcaa.LFillOne
open Go.RowKit Go.Proofs.YtkdhfbdecmfhcaaW.PrintWords Go.Proofs.YtkdhfbdecmfhcaaW.PrintLast Go.Proofs.YtkdhfbdecmfhcaaW.PrintMore Go.Proofs.Ytkdhfbdecmfhcaa.FMath Go.Proofs.Ytkdhfbdecmfhcaa.FPlain Go.Proofs.Ytkdhfbdecmfhcaa.FWalks Go.Proofs.Ytkdhfbdecmfhcaa.FLines Go.Proofs.Ytkdhfbdecmfhcaa.FRef Go.Proofs.Ytkdhfbdecmfhcaa.FWords
set_option linter.unusedVariables false
set_option linter.unusedSimpArgs false
set_option maxHeartbeats 4000000 in
set_option maxRecDepth 100000 in
theorem fillOne_calls (A : Option Addr) (c : Nat) (l : List Int) {w : World} (hR : (Kd.int .u8).C w A l.length l) (hm : l.length ≤ maxLen) (hw : ∀ x ∈ l, (Lit.int .u8 x).wf = true) (hc : l.length ≤ c) (a : Int) (ha : (Lit.int .u8 a).wf = true) :
    Calls Try.prog 9 #[.slice A l.length c, .int .u8 a] w fun e w' => e = .returned (.bool true) ∧ Below w.heap.size w w' := by
  have HR := Aside0.mk hR
  have HWF := Aside0.mk hw
  have HB := Aside0.mk (Below.refl w.heap.size w)
  obtain ⟨er, a0, a1⟩ := room_of ha
  clear hR hw hm hc ha
  by_cases hg : 60 < l.length
  · have hd : decide ((60 : Int) < (l.length : Int)) = true := decide_eq_true (by omega)
    go_enter Try.func9, Try.ntmps9
    go_wp2_with (first | (go_at_call 12; refine (words_calls _).mono ?_; rintro e w_ ⟨rfl, hb⟩; have HBb := Aside0.mk (below_step HB.out hb); clear HB; have HB := HBb; clear HBb hb))
    go_ret
    exact ⟨rfl, HB.out⟩
  · have hd : decide ((60 : Int) < (l.length : Int)) = false := decide_eq_false (by omega)
    have hBy : Bytes l := ⟨by omega, fun x hx => u8_of (HWF.out x hx)⟩
    have HBy := Aside0.mk hBy
    have HG := Aside0.mk (good_wds hBy)
    have hle : (wds l).length ≤ 60 := by unfold wds; rw [List.length_map]; omega
    have hln : l.length ≤ 60 := by omega
    clear hBy hg
    obtain ⟨q, hq⟩ : ∃ q, q = wds l := ⟨_, rfl⟩
    rw [← hq] at HG hle
    have HQ := Aside0.mk hq
    clear hq
    by_cases hz : l.length = 0
    · have hzb : ((l.length : Int) == 0) = true := by rw [hz]; rfl
      clear hz
      go_enter Try.func9, Try.ntmps9
      go_wp2_with (first | (go_at_call 12; refine (words_calls _).mono ?_; rintro e w_ ⟨rfl, hb⟩; have HBb := Aside0.mk (below_step HB.out hb); clear HB; have HB := HBb; clear HBb; clear hb))
      go_ret
      exact ⟨rfl, HB.out⟩
    · have hzb : ((l.length : Int) == 0) = false := by rw [beq_eq_false_iff_ne]; omega
      have hql : q.length = l.length := by rw [HQ.out]; unfold wds; rw [List.length_map]
      have hq0 : 0 < q.length := by omega
      have HNE := Aside0.mk (show q ≠ [] by intro e; rw [e] at hq0; simp at hq0)
      obtain ⟨ln, hln⟩ : ∃ ln, ln = lns (a + 1) q.length q := ⟨_, rfl⟩
      have hlw := lns_wf (r := a + 1) HG.out (by omega) (by omega)
      have hsm := lns_sum (a + 1) (by omega) (by omega) q.length q (by omega) HG.out.1 HG.out.one
      rw [← hln] at hlw hsm
      have HLN := Aside0.mk hln
      have HSM := Aside0.mk hsm
      have hlc := hlw.1
      clear hln hlw hsm hz hql
      have HQ0 := Aside0.mk hq0
      go_enter Try.func9, Try.ntmps9
      go_wp2_with (first | (go_at_call 12; refine (words_calls _).mono ?_; rintro e w_ ⟨rfl, hb⟩; have HBb := Aside0.mk (below_step HB.out hb); clear HB; have HB := HBb; clear HBb; clear hb) | (go_at_call 13; refine (widths_calls A c l _ (Kd.C_below HR.out HB.out) HBy.out).mono ?_; rintro e w_ ⟨v_, rfl, ho, hb⟩; rw [← HQ.out] at ho; obtain ⟨Aq, cq, e_, hle_, hC_⟩ := Kd.R_reads ho; subst e_; have HQR := Aside0.mk (Kd.R_lower ho (below_size HB.out)); have HBb := Aside0.mk (below_step HB.out hb); clear HB; have HB := HBb; clear HBb; clear hb ho hC_ hle_))
      obtain ⟨g, cq', eq_, gb, gl, cl, hg⟩ := Kd.R_form HQR.out hq0
      cases eq_
      clear gb gl cl hg
      have k0 := (Kd.R_celln 0 HQR.out (0 : Int) (by omega) (by omega)).1
      have hgb := HG.out.at (i := 0) hq0
      rw [show rdOf 0 q (0 : Int) = q.getD 0 0 from rfl, show (0 : Int).toNat = 0 from rfl] at k0
      obtain ⟨m0, hm0⟩ : ∃ m0, m0 = q.getD 0 0 := ⟨_, rfl⟩
      rw [← hm0] at k0 hgb
      have HM0 := Aside0.mk hm0
      clear hm0
      have hgb1 := hgb.1
      have hgb2 := hgb.2
      clear hgb
      obtain ⟨wo, hwo⟩ : ∃ wo : World, wo = w_ := ⟨_, rfl⟩
      subst hwo
      repeat (go_quiet (fail); try go_wp2)
      go_loopg [7, 8, 9] q.length (fun kq v7 v8 v9 w' => ∃ (s x i : Int), v7 = .int .i64 s ∧ v8 = .int .i64 x ∧ v9 = .int .i64 i ∧ Aside0 (i = (q.length : Int) - kq ∧ 0 ≤ i) ∧ Aside0 (s = (q.length : Int) + wid q i.toNat - i) ∧ Aside0 (1 ≤ x ∧ x ≤ 23) ∧ Aside0 (∀ j, j < i.toNat → x ≤ q.getD j 0) ∧ Drawn0 wo w')
      case atStart => exact ⟨_, _, 0, rfl, rfl, rfl, ⟨by omega, by omega⟩, ⟨by rw [show wid q ((0 : Int).toNat) = -1 from by cases q <;> rfl]; omega⟩, ⟨by omega, by omega⟩, ⟨fun j hj => absurd hj (Nat.not_lt_zero _)⟩, by repeat (first | exact Drawn0.refl _ | apply Drawn0.step)⟩
      case round =>
        clear k0
        obtain ⟨s, x, i0, rfl, rfl, rfl, HI, HS, HX, HMN, ⟨m1, rfl⟩⟩ := hrel
        obtain ⟨i, rfl⟩ := Int.eq_ofNat_of_zero_le HI.out.2
        rw [Int.toNat_natCast] at HS HMN
        have hil : i ≤ q.length := by have := HI.out; omega
        have hwb := wid_bd HG.out i hil
        have hs1 : -1 ≤ s := by have := HS.out; omega
        have hs2 : s ≤ 30000 := by have := HS.out; omega
        have hx1 := HX.out.1
        have hx2 := HX.out.2
        by_cases hlt : i < q.length
        · have hlt' : decide ((i : Int) < (q.length : Int)) = true := decide_eq_true (by omega)
          have hws := wid_succ q i hlt
          have hgb := HG.out.at hlt
          obtain ⟨hc, _⟩ := Kd.R_celln 0 HQR.out (i : Int) (by omega) (by omega)
          rw [show rdOf 0 q (i : Int) = q.getD i 0 from by unfold rdOf; rw [Int.toNat_natCast], Int.toNat_natCast] at hc
          have HWS := Aside0.mk hws
          have HLT := Aside0.mk hlt
          obtain ⟨v, hv⟩ : ∃ v, v = q.getD i 0 := ⟨_, rfl⟩
          rw [← hv] at hc hgb
          have HV := Aside0.mk hv
          clear hv hws hwb
          have hg1 := hgb.1
          have hg2 := hgb.2
          clear hgb
          have p1 : ((i : Int) < (q.length : Int)) = True := eq_true (by omega)
          by_cases hvx : v < x
          · have hvd : decide (v < x) = true := decide_eq_true hvx
            go_wp2
            go_roundg (q.length - (i + 1))
            case measure => have := HI.out; have := HLT.out; omega
            case rel => exact ⟨s + v, v, (i : Int) + 1, by go_num, by go_num, by go_num, ⟨by have := HLT.out; omega, by omega⟩, ⟨by rw [HS.out, show ((i : Int) + 1).toNat = i + 1 by omega, HWS.out, HV.out]; omega⟩, ⟨by omega, by omega⟩, ⟨fun j hj => by
                by_cases e : j = i
                · subst e; rw [HV.out]; exact Int.le_refl _
                · have := HMN.out j (by omega); omega⟩, by repeat (first | exact Drawn0.refl _ | apply Drawn0.step)⟩
          · have hvd : decide (v < x) = false := decide_eq_false hvx
            go_wp2
            go_roundg (q.length - (i + 1))
            case measure => have := HI.out; have := HLT.out; omega
            case rel => exact ⟨s + v, x, (i : Int) + 1, by go_num, by go_num, by go_num, ⟨by have := HLT.out; omega, by omega⟩, ⟨by rw [HS.out, show ((i : Int) + 1).toNat = i + 1 by omega, HWS.out, HV.out]; omega⟩, ⟨by omega, by omega⟩, ⟨fun j hj => by
                by_cases e : j = i
                · subst e; rw [← HV.out]; omega
                · exact HMN.out j (by omega)⟩, by repeat (first | exact Drawn0.refl _ | apply Drawn0.step)⟩
        · have hlt' : decide ((i : Int) < (q.length : Int)) = false := decide_eq_false (by omega)
          have hlt2 : decide (i < q.length) = false := decide_eq_false hlt
          have hiq : i = q.length := by omega
          have hsw : s = wid q q.length := by rw [HS.out, hiq]; omega
          have HSW := Aside0.mk hsw
          have HMQ := Aside0.mk (show ∀ y ∈ q, x ≤ y from fun y hy => by
            obtain ⟨j, hj, rfl⟩ := List.getElem_of_mem hy
            have := HMN.out j (by omega)
            rwa [List.getD_eq_getElem?_getD, List.getElem?_eq_getElem hj] at this)
          have HB2 := Aside0.mk (show Below w.heap.size w (wo.drewN m1) from pw_below_drewN HB.out _)
          have HQ2 := Aside0.mk (Kd.R_drewN HQR.out m1)
          clear hsw hwb HB HQR
          have HB := HB2
          have HQR := HQ2
          clear HB2 HQ2
          by_cases hf : s ≤ a + 1
          · have hl1 := lns_one HG.out (show 0 ≤ a + 1 by omega) (by omega) HNE.out (by rw [← HSW.out]; exact hf)
            rw [← HLN.out] at hl1
            have HL1 := Aside0.mk hl1
            clear hl1
            have hfd : decide (s ≤ a + 1) = true := decide_eq_true hf
            go_wp2_with fail
            refine (lines_calls _ cq q (a + 1) _ (Kd.R_reads' HQR.out).2.2 (Kd.R_reads' HQR.out).2.1 HG.out (by omega) (by omega)).mono ?_
            rintro e w_ ⟨v_, rfl, ho, hb⟩
            rw [← HLN.out] at ho
            obtain ⟨A1, c1, e_, hle_, hC_⟩ := Kd.R_reads ho
            subst e_
            have H1 := Aside0.mk (Kd.R_lower ho (below_size HB.out))
            have HBb := Aside0.mk (below_step HB.out hb)
            clear HB
            have HB := HBb
            clear HBb
            have K_ := Aside0.mk (Kd.R_below HQR.out hb)
            clear HQR
            have HQR := K_
            clear K_
            clear hb ho hC_ hle_
            have hl1l : ln.length = 1 := by rw [HL1.out]; rfl
            obtain ⟨g1, c1', e1_, g_, g__, g___⟩ := Kd.R_form H1.out (by omega)
            cases e1_
            clear g_ g__ g___
            have k1 := (Kd.R_celln 0 H1.out (0 : Int) (by omega) (by omega)).1
            rw [show rdOf 0 ln (0 : Int) = (q.length : Int) from by rw [HL1.out]; rfl, show (0 : Int).toNat = 0 from rfl] at k1
            have hlb : ((ln.length : Int) == 1) = true := by rw [hl1l]; rfl
            have hqb : ((q.length : Int) == (q.length : Int)) = true := by simp
            have hp : 0 < ln.length := by omega
            clear hl1l
            go_wp2
            go_ret
            exact ⟨rfl, HB.out⟩
          · have hfd : decide (s ≤ a + 1) = false := decide_eq_false hf
            by_cases h2 : a + 1 < 2 * x + 1
            · have h2d : decide (a + 1 < 2 * x + 1) = true := decide_eq_true h2
              have hls := lns_ones (show 0 ≤ a + 1 by omega) (by omega) h2 q.length q rfl HG.out HMQ.out
              rw [← HLN.out] at hls
              have HLS := Aside0.mk hls
              clear hls
              go_wp2_with (first | (go_at_call 19; refine (lines_calls _ cq q (a + 1) _ (Kd.R_reads' HQR.out).2.2 (Kd.R_reads' HQR.out).2.1 HG.out (by omega) (by omega)).mono ?_; rintro e w_ ⟨v_, rfl, ho, hb⟩; rw [← HLN.out] at ho; obtain ⟨A1, c1, e_, hle_, hC_⟩ := Kd.R_reads ho; subst e_; have H1 := Aside0.mk (Kd.R_lower ho (below_size HB.out)); have HBb := Aside0.mk (below_step HB.out hb); clear HB; have HB := HBb; clear HBb; have K_ := Aside0.mk (Kd.R_below HQR.out hb); clear HQR; have HQR := K_; clear K_; clear hb ho hC_ hle_))
              obtain ⟨wp, hwp⟩ : ∃ wp : World, wp = w_ := ⟨_, rfl⟩
              subst hwp
              go_loopg [11] ln.length (fun kq v11 w' => ∃ (j : Int), v11 = .int .i64 j ∧ Aside0 (j = (ln.length : Int) - kq ∧ 0 ≤ j) ∧ Aside0 (wp = w'))
              case atStart => exact ⟨0, rfl, ⟨by omega, by omega⟩, ⟨rfl⟩⟩
              case round =>
                obtain ⟨j0, rfl, HJ, HWP⟩ := hrel
                obtain ⟨j, rfl⟩ := Int.eq_ofNat_of_zero_le HJ.out.2
                have hwp := HWP.out
                subst hwp
                by_cases hjl : j < ln.length
                · have hjd : decide ((j : Int) < (ln.length : Int)) = true := decide_eq_true (by omega)
                  obtain ⟨ad, ea, hc⟩ := at_nat (Kd.R_reads' H1.out).2.2 j hjl
                  cases ea
                  rw [show ln.getD j 0 = 1 from by rw [HLS.out]; simp [List.getD_eq_getElem?_getD]; rw [HLS.out, List.length_replicate] at hjl; simp [hjl]] at hc
                  have HJL := Aside0.mk hjl
                  have p1 : ((j : Int) < (ln.length : Int)) = True := eq_true (by omega)
                  go_wp2
                  go_roundg (ln.length - (j + 1))
                  case measure => have := HJ.out; have := HJL.out; omega
                  case rel => exact ⟨(j : Int) + 1, by go_num, ⟨by have := HJL.out; omega, by omega⟩, ⟨rfl⟩⟩
                · have hjd : decide ((j : Int) < (ln.length : Int)) = false := decide_eq_false (by omega)
                  have hjd2 : decide (j < ln.length) = false := decide_eq_false hjl
                  have hll : ((ln.length : Int) == (q.length : Int)) = true := by
                    have : ln.length = q.length := by rw [HLS.out, List.length_replicate]
                    rw [this]; simp
                  go_wp2
                  go_ret
                  exact ⟨rfl, HB.out⟩
            · have h2d : decide (a + 1 < 2 * x + 1) = false := decide_eq_false h2
              by_cases h3 : 1 < ln.length
              · have h3d : decide ((1 : Int) < (ln.length : Int)) = true := decide_eq_true (by omega)
                go_wp2_with (first | (go_at_call 19; refine (lines_calls _ cq q (a + 1) _ (Kd.R_reads' HQR.out).2.2 (Kd.R_reads' HQR.out).2.1 HG.out (by omega) (by omega)).mono ?_; rintro e w_ ⟨v_, rfl, ho, hb⟩; rw [← HLN.out] at ho; obtain ⟨A1, c1, e_, hle_, hC_⟩ := Kd.R_reads ho; subst e_; have H1 := Aside0.mk (Kd.R_lower ho (below_size HB.out)); have HBb := Aside0.mk (below_step HB.out hb); clear HB; have HB := HBb; clear HBb; have K_ := Aside0.mk (Kd.R_below HQR.out hb); clear HQR; have HQR := K_; clear K_; clear hb ho hC_ hle_))
                go_ret
                exact ⟨rfl, HB.out⟩
              · have h3d : decide ((1 : Int) < (ln.length : Int)) = false := decide_eq_false (by omega)
                have h3e : decide (1 < ln.length) = false := decide_eq_false h3
                have hq1 : q.length = 1 := by
                  have hs := HSM.out
                  match ln, hs, h3 with
                  | [], hs, _ =>
                    have := sumW_nil_iff hs
                    exact absurd (by simpa using this) HNE.out
                  | [k1], hs, _ =>
                    obtain ⟨t, s', rfl, ho, hs', _⟩ := sumW_cons hs
                    have hn := sumW_nil_iff hs'
                    have h5 : q.length ≤ t := by simpa using hn
                    have h6 := ho.2.1
                    have e : t = q.length := by omega
                    subst e
                    have := ho.2.2
                    have := HSW.out
                    omega
                  | _ :: _ :: _, _, h3 => simp at h3
                have hqb : ((q.length : Int) == 1) = true := by rw [hq1]; rfl
                clear hq1
                go_wp2_with (first | (go_at_call 19; refine (lines_calls _ cq q (a + 1) _ (Kd.R_reads' HQR.out).2.2 (Kd.R_reads' HQR.out).2.1 HG.out (by omega) (by omega)).mono ?_; rintro e w_ ⟨v_, rfl, ho, hb⟩; rw [← HLN.out] at ho; obtain ⟨A1, c1, e_, hle_, hC_⟩ := Kd.R_reads ho; subst e_; have H1 := Aside0.mk (Kd.R_lower ho (below_size HB.out)); have HBb := Aside0.mk (below_step HB.out hb); clear HB; have HB := HBb; clear HBb; have K_ := Aside0.mk (Kd.R_below HQR.out hb); clear HQR; have HQR := K_; clear K_; clear hb ho hC_ hle_))
                go_ret
                exact ⟨rfl, HB.out⟩
end Go.Proofs.Ytkdhfbdecmfhcaa.LFillOne
