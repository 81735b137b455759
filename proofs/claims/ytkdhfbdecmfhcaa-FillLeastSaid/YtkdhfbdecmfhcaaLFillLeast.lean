/- Proved: the law FillLeast, called with what the form hands it, returns true and leaves old memory as it was (no way to part the words into lines costs less); its conditions: the widths and the room are bytes. -/
import Derived.Test.YtkdhfbdecmfhcaaFWords
namespace Go.Proofs.Ytkdhfbdecmfhcaa.LFillLeast
open Go.RowKit Go.Proofs.YtkdhfbdecmfhcaaW.PrintWords Go.Proofs.YtkdhfbdecmfhcaaW.PrintLast Go.Proofs.YtkdhfbdecmfhcaaW.PrintMore Go.Proofs.Ytkdhfbdecmfhcaa.FMath Go.Proofs.Ytkdhfbdecmfhcaa.FPlain Go.Proofs.Ytkdhfbdecmfhcaa.FWalks Go.Proofs.Ytkdhfbdecmfhcaa.FLines Go.Proofs.Ytkdhfbdecmfhcaa.FRef Go.Proofs.Ytkdhfbdecmfhcaa.FWords
set_option linter.unusedVariables false
set_option linter.unusedSimpArgs false
set_option maxHeartbeats 4000000 in
set_option maxRecDepth 100000 in
theorem fillLeast_calls (A : Option Addr) (c : Nat) (l : List Int) {w : World} (hR : (Kd.int .u8).C w A l.length l) (hm : l.length ≤ maxLen) (hw : ∀ x ∈ l, (Lit.int .u8 x).wf = true) (hc : l.length ≤ c) (B : Option Addr) (d : Nat) (m : List Bool) (hM : ∀ j, j < m.length → ∃ ad, B = some ad ∧ w.cell? (ad.add j) = some (.bool (m.getD j false))) (hd : m.length ≤ d) (a : Int) (ha : (Lit.int .u8 a).wf = true) :
    Calls Try.prog 6 #[.slice A l.length c, .slice B m.length d, .int .u8 a] w fun e w' => e = .returned (.bool true) ∧ Below w.heap.size w w' := by
  have HR := Aside0.mk hR
  have HWF := Aside0.mk hw
  have HB := Aside0.mk (Below.refl w.heap.size w)
  obtain ⟨er, a0, a1⟩ := room_of ha
  clear hR hw hm hc ha
  have HM := Aside0.mk hM
  clear hM hd
  by_cases hg : 60 < l.length
  · have hd : decide ((60 : Int) < (l.length : Int)) = true := decide_eq_true (by omega)
    go_enter Try.func6, Try.ntmps6
    go_wp2_with (first | (go_at_call 12; refine (words_calls _).mono ?_; rintro e w_ ⟨rfl, hb⟩; have HBb := Aside0.mk (below_step HB.out hb); clear HB; have HB := HBb; clear HBb hb))
    go_ret
    exact ⟨rfl, HB.out⟩
  · have hd : decide ((60 : Int) < (l.length : Int)) = false := decide_eq_false (by omega)
    have hBy : Bytes l := ⟨by omega, fun x hx => u8_of (HWF.out x hx)⟩
    have HBy := Aside0.mk hBy
    have HG := Aside0.mk (good_wds hBy)
    have hle : (wds l).length ≤ 60 := by unfold wds; rw [List.length_map]; omega
    have hln : l.length ≤ 60 := by omega
    clear hBy hg
    obtain ⟨q, hq⟩ : ∃ q, q = wds l := ⟨_, rfl⟩
    rw [← hq] at HG hle
    have HQ := Aside0.mk hq
    clear hq
    go_enter Try.func6, Try.ntmps6
    obtain ⟨ln, hln⟩ : ∃ ln, ln = lns (a + 1) q.length q := ⟨_, rfl⟩
    have hlw := lns_wf (r := a + 1) HG.out (by omega) (by omega)
    have hsm := lns_sum (a + 1) (by omega) (by omega) q.length q (by omega) HG.out.1 HG.out.one
    rw [← hln] at hlw hsm
    have HLN := Aside0.mk hln
    have HLW := Aside0.mk hlw.2
    have HSM := Aside0.mk hsm
    have hlc := hlw.1
    clear hln hlw hsm
    obtain ⟨bb, hbb⟩ : ∃ bb, bb = bst (a + 1) q := ⟨_, rfl⟩
    have E1 := Aside0.mk (show res 0 (sumW (a + 1) q ln) = (bb, true) by rw [HSM.out, hbb]; simp [res])
    have HBB := Aside0.mk hbb
    clear hbb
    have hnb : (bb != bb) = false := by simp
    go_wp2_with (first
      | (go_at_call 12; refine (words_calls _).mono ?_; rintro e w_ ⟨rfl, hb⟩; have HBb := Aside0.mk (below_step HB.out hb); clear HB; have HB := HBb; clear HBb; clear hb)
      | (go_at_call 13; refine (widths_calls A c l _ (Kd.C_below HR.out HB.out) HBy.out).mono ?_; rintro e w_ ⟨v_, rfl, ho, hb⟩; rw [← HQ.out] at ho; obtain ⟨Aq, cq, e_, hle_, hC_⟩ := Kd.R_reads ho; subst e_; have HQR := Aside0.mk (Kd.R_lower ho (below_size HB.out)); have HBb := Aside0.mk (below_step HB.out hb); clear HB; have HB := HBb; clear HBb; clear hb ho hC_ hle_)
      | (go_at_call 19; refine (lines_calls Aq cq q (a + 1) _ (Kd.R_reads' HQR.out).2.2 (Kd.R_reads' HQR.out).2.1 HG.out (by omega) (by omega)).mono ?_; rintro e w_ ⟨v_, rfl, ho, hb⟩; rw [← HLN.out] at ho; obtain ⟨A1, c1, e_, hle_, hC_⟩ := Kd.R_reads ho; subst e_; have H1 := Aside0.mk (Kd.R_lower ho (below_size HB.out)); have HBb := Aside0.mk (below_step HB.out hb); clear HB; have HB := HBb; clear HBb; have K_ := Aside0.mk (Kd.R_below HQR.out hb); clear HQR; have HQR := K_; clear K_; clear hb ho hC_ hle_)
      | (go_at_call 16; refine (sum_calls Aq A1 cq c1 q ln (a + 1) _ (Kd.R_reads' HQR.out).2.2 (Kd.R_reads' HQR.out).2.1 (Kd.R_reads' H1.out).2.2 (Kd.R_reads' H1.out).2.1 HG.out hlc HLW.out (by omega) (by omega)).mono ?_; rintro e w_ ⟨rfl, rfl⟩; rw [E1.out])
      | (go_at_call 17; refine (refsum_calls Aq A1 cq c1 q ln (a + 1) _ (Kd.R_reads' HQR.out).2.2 (Kd.R_reads' HQR.out).2.1 (Kd.R_reads' H1.out).2.2 (Kd.R_reads' H1.out).2.1 HG.out hlc HLW.out (by omega) (by omega)).mono ?_; rintro e w_ ⟨rfl, rfl⟩; rw [E1.out]))
    go_loopg [14, 15, 16] q.length (fun kq v_o v_n v_i w' => ∃ (out : List Int) (n i : Int), v_n = .int .i64 n ∧ v_i = .int .i64 i ∧ Aside0 (i = (q.length : Int) - kq ∧ 0 ≤ i) ∧ Aside0 (0 ≤ n ∧ n ≤ i) ∧ Aside0 (Wf out ∧ out.length ≤ i.toNat) ∧ Aside0 (Kd.R (Kd.int .i64) 3 w' w.heap.size (fun k_ => some k_ ≠ (v_o : Value).ownBlock) (.slice Aq q.length cq) q) ∧ Aside0 (Kd.R (Kd.int .i64) 3 w' w.heap.size (fun k_ => some k_ ≠ (.slice Aq q.length cq : Value).ownBlock) v_o out) ∧ Aside0 (Below w.heap.size w w'))
    case atStart => exact ⟨[], 0, 0, rfl, rfl, ⟨by omega, by omega⟩, ⟨by omega, by omega⟩, ⟨⟨fun x hx => by simp at hx, Nat.le_refl _⟩⟩, ⟨Kd.R_mono (Kd.R_apart_nil HQR.out) (fun _ hk => hk.2)⟩, ⟨Kd.R_nil _ _ _ _ _⟩, HB⟩
    case round =>
      clear HB HQR
      obtain ⟨out, n, i0, rfl, rfl, HI, HN, HO1, HQR, HO, HB⟩ := hrel
      obtain ⟨i, rfl⟩ := Int.eq_ofNat_of_zero_le HI.out.2
      rw [Int.toNat_natCast] at HO1
      have hil : i ≤ 60 := by have := HI.out; omega
      have hn0 := HN.out.1
      have hn1 := HN.out.2
      have LM := Aside0.mk (show out.length ≤ 100 by have := HO1.out.2; omega)
      have HWX := Aside0.mk (show Wf (out ++ [n + 1]) from fun x hx => by
        rcases List.mem_append.1 hx with hx | hx
        · exact HO1.out.1 x hx
        · obtain rfl : x = n + 1 := by simpa using hx
          omega)
      by_cases hlt : i < q.length
      · have HLT := Aside0.mk hlt
        have hlt' : decide ((i : Int) < (q.length : Int)) = true := decide_eq_true (by omega)
        by_cases hlast : (i : Int) = (q.length : Int) - 1
        · have ht1 : ((i : Int) == (q.length : Int) - 1) = true := beq_iff_eq.2 hlast
          clear hlast
          go_wp2_with (first | ((with_reducible refine gate_builtin (b := .append) (xs := #[.tmp 85, .tmp 87]) rfl ?_); at_builtin; refine Kd.R_append (Kd.int .i64) (w0 := w) w.heap.size rfl (.tmp 85) (.tmp 87) 24 3 (.int .i64 0) 8 rfl Try.underlying24 info3 rfl (by decide) (by omega) u14 out (n + 1) [.int .i64 (n + 1)] (fun k_ => some k_ ≠ (.slice Aq q.length cq : Value).ownBlock) (fun _ => False) rfl rfl ?aP1 (fun _ hk => hk.elim) ?aF1 ?aO1 ?aB1 ?aS1 ?aL1 ?_; (case aP1 => exact rfl); (case aB1 => exact (by repeat (first | (with_reducible first | exact HB.out | apply below_alloc | apply pw_below_drewN | apply below_drew1) | exact HB.out))); (case aF1 => exact (fun k_ hk => Kd.fresh' (Kd.R_lt (by (with_reducible repeat (first | apply Kd.R_alloc | apply Kd.R_drewN | apply Kd.R_drew)); exact HQR.out)) k_ hk)); (case aO1 => exact (by (with_reducible repeat (first | apply Kd.R_alloc | apply Kd.R_drewN | apply Kd.R_drew)); exact HO.out)); (case aS1 => exact (below_size (by repeat (first | (with_reducible first | exact HB.out | apply below_alloc | apply pw_below_drewN | apply below_drew1) | exact HB.out)))); (case aL1 => have := LM.out; omega); intro v4 w4 ho hb hg hat; have K0 := Aside0.mk (Kd.R_after (ok := (fun _ => True)) (by (with_reducible repeat (first | apply Kd.R_alloc | apply Kd.R_drewN | apply Kd.R_drew)); exact Kd.R_mono HQR.out (fun _ hk => ⟨trivial, hk⟩)) hg hat); have HBb := Aside0.mk hb; have HOb := Aside0.mk ho; clear HB HO ho hb hg hat HQR; have HB := HBb; have HO := HOb; clear HBb HOb; have HQR := Aside0.mk (Kd.R_mono K0.out (fun _ hk => hk.2)); clear K0))
          go_roundg (q.length - (i + 1))
          case measure => have := HI.out; have := HLT.out; omega
          case rel => exact ⟨out ++ [n + 1], 0, (i : Int) + 1, by go_num, by go_num, ⟨by have := HLT.out; omega, by omega⟩, ⟨by omega, by omega⟩, ⟨⟨HWX.out, by rw [List.length_append]; have := HO1.out.2; simp; omega⟩⟩, HQR, HO, HB⟩
        · have ht1 : ((i : Int) == (q.length : Int) - 1) = false := beq_eq_false_iff_ne.2 hlast
          by_cases hme : i < m.length
          · have hme' : decide ((i : Int) < (m.length : Int)) = true := decide_eq_true (by omega)
            obtain ⟨ad, ea, hx⟩ := HM.out i hme
            cases ea
            replace hx := (HB.out.cell (World.block_lt_of_cell? w _ hx)).trans hx
            have p1 : ((i : Int) < (m.length : Int)) = True := eq_true (by omega)
            clear hlast
            cases hbv : m.getD i false with
            | true =>
              rw [hbv] at hx
              clear hbv
              go_wp2_with (first | ((with_reducible refine gate_builtin (b := .append) (xs := #[.tmp 85, .tmp 87]) rfl ?_); at_builtin; refine Kd.R_append (Kd.int .i64) (w0 := w) w.heap.size rfl (.tmp 85) (.tmp 87) 24 3 (.int .i64 0) 8 rfl Try.underlying24 info3 rfl (by decide) (by omega) u14 out (n + 1) [.int .i64 (n + 1)] (fun k_ => some k_ ≠ (.slice Aq q.length cq : Value).ownBlock) (fun _ => False) rfl rfl ?aP2 (fun _ hk => hk.elim) ?aF2 ?aO2 ?aB2 ?aS2 ?aL2 ?_; (case aP2 => exact rfl); (case aB2 => exact (by repeat (first | (with_reducible first | exact HB.out | apply below_alloc | apply pw_below_drewN | apply below_drew1) | exact HB.out))); (case aF2 => exact (fun k_ hk => Kd.fresh' (Kd.R_lt (by (with_reducible repeat (first | apply Kd.R_alloc | apply Kd.R_drewN | apply Kd.R_drew)); exact HQR.out)) k_ hk)); (case aO2 => exact (by (with_reducible repeat (first | apply Kd.R_alloc | apply Kd.R_drewN | apply Kd.R_drew)); exact HO.out)); (case aS2 => exact (below_size (by repeat (first | (with_reducible first | exact HB.out | apply below_alloc | apply pw_below_drewN | apply below_drew1) | exact HB.out)))); (case aL2 => have := LM.out; omega); intro v4 w4 ho hb hg hat; have K0 := Aside0.mk (Kd.R_after (ok := (fun _ => True)) (by (with_reducible repeat (first | apply Kd.R_alloc | apply Kd.R_drewN | apply Kd.R_drew)); exact Kd.R_mono HQR.out (fun _ hk => ⟨trivial, hk⟩)) hg hat); have HBb := Aside0.mk hb; have HOb := Aside0.mk ho; clear HB HO ho hb hg hat HQR; have HB := HBb; have HO := HOb; clear HBb HOb; have HQR := Aside0.mk (Kd.R_mono K0.out (fun _ hk => hk.2)); clear K0))
              go_roundg (q.length - (i + 1))
              case measure => have := HI.out; have := HLT.out; omega
              case rel => exact ⟨out ++ [n + 1], 0, (i : Int) + 1, by go_num, by go_num, ⟨by have := HLT.out; omega, by omega⟩, ⟨by omega, by omega⟩, ⟨⟨HWX.out, by rw [List.length_append]; have := HO1.out.2; simp; omega⟩⟩, HQR, HO, HB⟩
            | false =>
              rw [hbv] at hx
              clear hbv
              go_wp2
              go_roundg (q.length - (i + 1))
              case measure => have := HI.out; have := HLT.out; omega
              case rel => exact ⟨out, n + 1, (i : Int) + 1, by go_num, by go_num, ⟨by have := HLT.out; omega, by omega⟩, ⟨by omega, by omega⟩, ⟨⟨HO1.out.1, by have := HO1.out.2; omega⟩⟩, HQR, HO, HB⟩
          · have hme' : decide ((i : Int) < (m.length : Int)) = false := decide_eq_false (by omega)
            have hme2 : decide (i < m.length) = false := decide_eq_false (by omega)
            clear hlast
            go_wp2
            go_roundg (q.length - (i + 1))
            case measure => have := HI.out; have := HLT.out; omega
            case rel => exact ⟨out, n + 1, (i : Int) + 1, by go_num, by go_num, ⟨by have := HLT.out; omega, by omega⟩, ⟨by omega, by omega⟩, ⟨⟨HO1.out.1, by have := HO1.out.2; omega⟩⟩, HQR, HO, HB⟩
      · have hlt' : decide ((i : Int) < (q.length : Int)) = false := decide_eq_false (by omega)
        have hlt2 : decide (i < q.length) = false := decide_eq_false (by omega)
        obtain ⟨Ao, co, e_, hle_, hC_⟩ := Kd.R_reads HO.out
        subst e_
        have hol : out.length ≤ 100 := by have := HO1.out.2; omega
        have HWO := Aside0.mk HO1.out.1
        clear hC_ hle_
        cases hs : sumW (a + 1) q out with
        | none =>
          have E2 := Aside0.mk (show res 0 (sumW (a + 1) q out) = (0, false) by rw [hs]; rfl)
          clear hs
          go_wp2_with (first | (go_at_call 17; refine (refsum_calls Aq Ao cq co q out (a + 1) _ (Kd.R_reads' HQR.out).2.2 (Kd.R_reads' HQR.out).2.1 (Kd.R_reads' HO.out).2.2 (Kd.R_reads' HO.out).2.1 HG.out (by omega) HWO.out (by omega) (by omega)).mono ?_; rintro e w_ ⟨rfl, rfl⟩; rw [E2.out]))
          go_ret
          exact ⟨rfl, HB.out⟩
        | some s =>
          have hls := least (a + 1) (by omega) (by omega) out q s HG.out.1 HG.out.one hs
          rw [← HBB.out] at hls
          have E2 := Aside0.mk (show res 0 (sumW (a + 1) q out) = (s, true) by rw [hs]; simp [res])
          have hdb : decide (bb ≤ s) = true := decide_eq_true hls
          clear hs
          go_wp2_with (first | (go_at_call 17; refine (refsum_calls Aq Ao cq co q out (a + 1) _ (Kd.R_reads' HQR.out).2.2 (Kd.R_reads' HQR.out).2.1 (Kd.R_reads' HO.out).2.2 (Kd.R_reads' HO.out).2.1 HG.out (by omega) HWO.out (by omega) (by omega)).mono ?_; rintro e w_ ⟨rfl, rfl⟩; rw [E2.out]))
          go_ret
          exact ⟨rfl, HB.out⟩
end Go.Proofs.Ytkdhfbdecmfhcaa.LFillLeast
