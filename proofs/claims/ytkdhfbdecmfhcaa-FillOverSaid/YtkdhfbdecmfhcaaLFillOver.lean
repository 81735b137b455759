/- Proved: the law FillOver, called with what the form hands it, returns true and leaves old memory as it was (a line is wider than the room only if it has one word; all words are in lines); its conditions: the widths and the room are bytes. -/
import Derived.Test.YtkdhfbdecmfhcaaFWords
namespace Go.Proofs.Ytkdhfbdecmfhcaa.LFillOver
open Go.RowKit Go.Proofs.YtkdhfbdecmfhcaaW.PrintWords Go.Proofs.YtkdhfbdecmfhcaaW.PrintLast Go.Proofs.YtkdhfbdecmfhcaaW.PrintMore Go.Proofs.Ytkdhfbdecmfhcaa.FMath Go.Proofs.Ytkdhfbdecmfhcaa.FPlain Go.Proofs.Ytkdhfbdecmfhcaa.FWalks Go.Proofs.Ytkdhfbdecmfhcaa.FLines Go.Proofs.Ytkdhfbdecmfhcaa.FRef Go.Proofs.Ytkdhfbdecmfhcaa.FWords
set_option linter.unusedVariables false
set_option linter.unusedSimpArgs false
set_option maxHeartbeats 4000000 in
set_option maxRecDepth 100000 in
theorem fillOver_calls (A : Option Addr) (c : Nat) (l : List Int) {w : World} (hR : (Kd.int .u8).C w A l.length l) (hm : l.length ≤ maxLen) (hw : ∀ x ∈ l, (Lit.int .u8 x).wf = true) (hc : l.length ≤ c) (a : Int) (ha : (Lit.int .u8 a).wf = true) :
    Calls Try.prog 8 #[.slice A l.length c, .int .u8 a] w fun e w' => e = .returned (.bool true) ∧ Below w.heap.size w w' := by
  have HR := Aside0.mk hR
  have HWF := Aside0.mk hw
  have HB := Aside0.mk (Below.refl w.heap.size w)
  obtain ⟨er, a0, a1⟩ := room_of ha
  clear hR hw hm hc ha
  by_cases hg : 60 < l.length
  · have hd : decide ((60 : Int) < (l.length : Int)) = true := decide_eq_true (by omega)
    go_enter Try.func8, Try.ntmps8
    go_wp2_with (first | (go_at_call 12; refine (words_calls _).mono ?_; rintro e w_ ⟨rfl, hb⟩; have HBb := Aside0.mk (below_step HB.out hb); clear HB; have HB := HBb; clear HBb hb))
    go_ret
    exact ⟨rfl, HB.out⟩
  · have hd : decide ((60 : Int) < (l.length : Int)) = false := decide_eq_false (by omega)
    have hBy : Bytes l := ⟨by omega, fun x hx => u8_of (HWF.out x hx)⟩
    have HBy := Aside0.mk hBy
    have HG := Aside0.mk (good_wds hBy)
    have hle : (wds l).length ≤ 60 := by unfold wds; rw [List.length_map]; omega
    have hln : l.length ≤ 60 := by omega
    clear hBy hg
    obtain ⟨q, hq⟩ : ∃ q, q = wds l := ⟨_, rfl⟩
    rw [← hq] at HG hle
    have HQ := Aside0.mk hq
    clear hq
    go_enter Try.func8, Try.ntmps8
    obtain ⟨ln, hln⟩ : ∃ ln, ln = lns (a + 1) q.length q := ⟨_, rfl⟩
    have hlw := lns_wf (r := a + 1) HG.out (by omega) (by omega)
    have hsm := lns_sum (a + 1) (by omega) (by omega) q.length q (by omega) HG.out.1 HG.out.one
    rw [← hln] at hlw hsm
    have HLN := Aside0.mk hln
    have HLW := Aside0.mk hlw.2
    have HSM := Aside0.mk hsm
    have hlc := hlw.1
    clear hln hlw hsm
    have hne : (decide (0 < q.length) == decide (0 < ln.length)) = true := by
      have hn := sumW_nil_iff HSM.out
      by_cases hz : q = []
      · have : ln.length = 0 := by
          rw [hz] at hn; simp at hn; rw [hn]; rfl
        rw [hz, this]; rfl
      · have h1 : 0 < q.length := List.length_pos_iff.2 hz
        have h2 : 0 < ln.length := by
          apply List.length_pos_iff.2
          intro e; rw [e] at hn; simp at hn; exact hz hn
        rw [decide_eq_true h1, decide_eq_true h2]; rfl
    have HNE := Aside0.mk hne
    clear hne
    go_wp2_with (first
      | (go_at_call 12; refine (words_calls _).mono ?_; rintro e w_ ⟨rfl, hb⟩; have HBb := Aside0.mk (below_step HB.out hb); clear HB; have HB := HBb; clear HBb; clear hb)
      | (go_at_call 13; refine (widths_calls A c l _ (Kd.C_below HR.out HB.out) HBy.out).mono ?_; rintro e w_ ⟨v_, rfl, ho, hb⟩; rw [← HQ.out] at ho; obtain ⟨Aq, cq, e_, hle_, hC_⟩ := Kd.R_reads ho; subst e_; have HQR := Aside0.mk (Kd.R_lower ho (below_size HB.out)); have HBb := Aside0.mk (below_step HB.out hb); clear HB; have HB := HBb; clear HBb; clear hb ho hC_ hle_)
      | (go_at_call 19; refine (lines_calls Aq cq q (a + 1) _ (Kd.R_reads' HQR.out).2.2 (Kd.R_reads' HQR.out).2.1 HG.out (by omega) (by omega)).mono ?_; rintro e w_ ⟨v_, rfl, ho, hb⟩; rw [← HLN.out] at ho; obtain ⟨A1, c1, e_, hle_, hC_⟩ := Kd.R_reads ho; subst e_; have H1 := Aside0.mk (Kd.R_lower ho (below_size HB.out)); have HBb := Aside0.mk (below_step HB.out hb); clear HB; have HB := HBb; clear HBb; have K_ := Aside0.mk (Kd.R_below HQR.out hb); clear HQR; have HQR := K_; clear K_; clear hb ho hC_ hle_))
    obtain ⟨wo, hwo⟩ : ∃ wo : World, wo = w_ := ⟨_, rfl⟩
    subst hwo
    go_loopg [8, 9] ln.length (fun kq v8 v9 w' => ∃ (p i s : Int), v8 = .int .i64 p ∧ v9 = .int .i64 i ∧ Aside0 (i = (ln.length : Int) - kq ∧ 0 ≤ i) ∧ Aside0 (0 ≤ p ∧ p ≤ q.length) ∧ Aside0 (sumW (a + 1) (q.drop p.toNat) (ln.drop i.toNat) = some s) ∧ Aside0 (wo = w'))
    case atStart => exact ⟨0, 0, bst (a + 1) q, rfl, rfl, ⟨by omega, by omega⟩, ⟨by omega, by omega⟩, HSM, ⟨rfl⟩⟩
    case round =>
      obtain ⟨p0, i0, s, rfl, rfl, HI, HP, HS, HWO⟩ := hrel
      obtain ⟨i, rfl⟩ := Int.eq_ofNat_of_zero_le HI.out.2
      obtain ⟨p, rfl⟩ := Int.eq_ofNat_of_zero_le HP.out.1
      rw [Int.toNat_natCast, Int.toNat_natCast] at HS
      have hwo := HWO.out
      subst hwo
      have hpl : p ≤ q.length := by have := HP.out.2; omega
      have hil : i ≤ 1000 := by have := HI.out; omega
      by_cases hlt : i < ln.length
      · have hlt' : decide ((i : Int) < (ln.length : Int)) = true := decide_eq_true (by omega)
        have hsx := HS.out
        rw [drop_at ln i hlt] at hsx
        obtain ⟨t, s2, hx, hok, hs2, _⟩ := sumW_cons hsx
        rw [List.drop_drop] at hs2
        have HS2 := Aside0.mk hs2
        have hok1 := hok.1
        have hok2 := hok.2.1
        rw [List.length_drop] at hok2
        have HOK := Aside0.mk hok.2.2
        obtain ⟨ad, ea, hc⟩ := at_nat (Kd.R_reads' H1.out).2.2 i hlt
        cases ea
        rw [hx] at hc
        have HLT := Aside0.mk hlt
        have p1 : ((i : Int) < (ln.length : Int)) = True := eq_true (by omega)
        have hd1 : decide ((t : Int) < 1) = false := decide_eq_false (by omega)
        have hd2 : decide ((q.length : Int) - p < (t : Int)) = false := decide_eq_false (by omega)
        clear hsx hx hok hs2
        go_wp2
        go_loopg [10, 11] t (fun kq v10 v11 w' => ∃ (x j : Int), v10 = .int .i64 x ∧ v11 = .int .i64 j ∧ Aside0 (j = (t : Int) - kq ∧ 0 ≤ j) ∧ Aside0 (x = wid (q.drop p) j.toNat + t - j) ∧ Aside0 (wo = w'))
        case atStart => exact ⟨_, 0, rfl, rfl, ⟨by omega, by omega⟩, ⟨by rw [show wid (q.drop p) ((0 : Int).toNat) = -1 from by cases q.drop p <;> rfl]; omega⟩, ⟨rfl⟩⟩
        case round =>
          obtain ⟨x, j0, rfl, rfl, HJ, HXX, HWO⟩ := hrel
          obtain ⟨j, rfl⟩ := Int.eq_ofNat_of_zero_le HJ.out.2
          rw [Int.toNat_natCast] at HXX
          have hwo := HWO.out
          subst hwo
          have hjt : j ≤ t := by have := HJ.out; omega
          have hwb := wid_bd (HG.out.drop p) j (by simp; omega)
          have hx1 : -1 ≤ x := by have := HXX.out; omega
          have hx2 : x ≤ 30000 := by have := HXX.out; omega
          by_cases hjl : j < t
          · have hws := wid_succ (q.drop p) j (by simp; omega)
            rw [show (q.drop p).getD j 0 = q.getD (p + j) 0 from by rw [List.getD_eq_getElem?_getD, List.getElem?_drop, ← List.getD_eq_getElem?_getD]] at hws
            have hgb := HG.out.at (i := p + j) (by omega)
            obtain ⟨ad2, ea2, hc2⟩ := at_nat (Kd.R_reads' HQR.out).2.2 (p + j) (by omega)
            cases ea2
            have HWS := Aside0.mk hws
            have HJL := Aside0.mk hjl
            generalize hv : q.getD (p + j) 0 = v at hc2 hgb HWS
            clear hv hws hwb
            have hg1 := hgb.1
            have hg2 := hgb.2
            clear hgb
            have p2 : ((p : Int) + j < (q.length : Int)) = True := eq_true (by omega)
            go_wp2
            go_roundg (t - (j + 1))
            case measure => have := HJ.out; have := HJL.out; omega
            case rel => exact ⟨x + v, (j : Int) + 1, by go_num, by go_num, ⟨by have := HJL.out; omega, by omega⟩, ⟨by rw [HXX.out, show ((j : Int) + 1).toNat = j + 1 by omega, HWS.out]; omega⟩, ⟨rfl⟩⟩
          · have hjd : decide ((j : Int) < (t : Int)) = false := decide_eq_false (by omega)
            have hjd2 : decide (j < t) = false := decide_eq_false hjl
            have hxw : x = wid (q.drop p) t := by rw [HXX.out, show j = t by omega]; omega
            have HXW := Aside0.mk hxw
            clear hxw hwb
            by_cases hwide : a + 1 < x
            · have ht1 : t = 1 := by have := HOK.out; have := HXW.out; omega
              have hone : ((t : Int) != 1) = false := by rw [ht1]; rfl
              clear ht1
              go_wp2
              go_roundg (ln.length - (i + 1))
              case measure => have := HI.out; have := HLT.out; omega
              case rel => exact ⟨(p : Int) + t, (i : Int) + 1, s2, by go_num, by go_num, ⟨by have := HLT.out; omega, by omega⟩, ⟨by omega, by omega⟩, ⟨by rw [show ((p : Int) + t).toNat = p + t by omega, show ((i : Int) + 1).toNat = i + 1 by omega]; exact HS2.out⟩, ⟨rfl⟩⟩
            · have hwd : decide (a + 1 < x) = false := decide_eq_false hwide
              go_wp2
              go_roundg (ln.length - (i + 1))
              case measure => have := HI.out; have := HLT.out; omega
              case rel => exact ⟨(p : Int) + t, (i : Int) + 1, s2, by go_num, by go_num, ⟨by have := HLT.out; omega, by omega⟩, ⟨by omega, by omega⟩, ⟨by rw [show ((p : Int) + t).toNat = p + t by omega, show ((i : Int) + 1).toNat = i + 1 by omega]; exact HS2.out⟩, ⟨rfl⟩⟩
      · have hlt' : decide ((i : Int) < (ln.length : Int)) = false := decide_eq_false (by omega)
        have hlt2 : decide (i < ln.length) = false := decide_eq_false hlt
        have hsx := HS.out
        rw [List.drop_of_length_le (show ln.length ≤ i by omega)] at hsx
        have hn := sumW_nil_iff hsx
        have hpq : p = q.length := by
          have : q.length ≤ p := by simpa using hn
          omega
        have hpe : ((p : Int) == (q.length : Int)) = true := by rw [hpq]; simp
        have hne := HNE.out
        clear hsx hn hpq
        go_wp2
        go_ret
        exact ⟨rfl, HB.out⟩
end Go.Proofs.Ytkdhfbdecmfhcaa.LFillOver
