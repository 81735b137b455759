/- Proved: the reference's Lines answers the list of line lengths that the plain function lns tells, for words' widths from 1 to 23 (at most 1000) and rooms from 0 to 600, and leave old memory as it was. -/
import Derived.Test.YtkdhfbdecmfhcaaFLeast
namespace Go.Proofs.Ytkdhfbdecmfhcaa.FRefLines
open Go.RowKit Go.Proofs.YtkdhfbdecmfhcaaW.PrintWords Go.Proofs.YtkdhfbdecmfhcaaW.PrintLast Go.Proofs.YtkdhfbdecmfhcaaW.PrintMore Go.Proofs.Ytkdhfbdecmfhcaa.FMath Go.Proofs.Ytkdhfbdecmfhcaa.FPlain Go.Proofs.Ytkdhfbdecmfhcaa.FWalks Go.Proofs.Ytkdhfbdecmfhcaa.FLeast
set_option linter.unusedVariables false
set_option linter.unusedSimpArgs false
set_option maxHeartbeats 8000000 in
set_option maxRecDepth 100000 in
theorem reflines_calls (A : Option Addr) (c : Nat) (l : List Int) (r : Int) (w : World) (hR : (Kd.int .i64).C w A l.length l) (hc : l.length ≤ c) (hl : Fine l) (h0 : 0 ≤ r) (hr : r ≤ 600) :
    Calls Try.prog 20 #[.slice A l.length c, .int .i64 r] w fun e w' => ∃ v, e = .returned v ∧ Kd.R (Kd.int .i64) 3 w' w.heap.size (fun _ => True) v (lns r l.length l) ∧ Below w.heap.size w w' := by
  have HR := Aside0.mk hR
  have HC := Aside0.mk hc
  have HL := Aside0.mk hl
  have hn := hl.1
  have HCALL := Aside0.mk (least_calls A c l r w hR hc hl h0 hr)
  clear hR hc hl
  go_enter Try.func20, Try.ntmps20
  go_wp2_with (go_at_call 21; refine HCALL.out.mono ?_; rintro e w1 ⟨v6, x6, rfl, hA, ho, hb⟩; have HA := Aside0.mk hA; have HO6 := Aside0.mk ho; have HB := Aside0.mk hb; clear hA ho hb)
  go_loopg [0, 5] l.length (fun kq v0 v5 w' => ∃ (out q : List Int) (A' : Option Addr) (c' : Nat), v0 = .slice A' q.length c' ∧ Aside0 (q.length = kq ∧ q.length ≤ l.length) ∧ Aside0 (q = l.drop (l.length - q.length)) ∧ Aside0 ((Kd.int .i64).C w A' q.length q ∧ q.length ≤ c') ∧ Aside0 (lns r l.length l = out ++ lns r q.length q) ∧ Aside0 (out.length + q.length ≤ l.length) ∧ Aside0 (Kd.R (Kd.int .i64) 3 w' w.heap.size (fun k_ => some k_ ≠ (v6 : Value).ownBlock) v5 out) ∧ Aside0 (Kd.R (Kd.int .i64) 3 w' w.heap.size (fun k_ => some k_ ≠ (v5 : Value).ownBlock) v6 x6) ∧ Aside0 (Below w.heap.size w w'))
  case atStart => exact ⟨[], l, A, c, rfl, ⟨rfl, Nat.le_refl _⟩, ⟨by simp⟩, ⟨HR.out, HC.out⟩, ⟨by simp⟩, ⟨by simp⟩, ⟨Kd.R_nil _ _ _ _ _⟩, ⟨Kd.R_mono (Kd.R_apart_nil HO6.out) (fun _ hk => hk.2)⟩, HB⟩
  case round =>
    clear HB HO6
    obtain ⟨out, q, A2, c2, rfl, HQ, HQD, HQC, HLN, HOL, HO, HO6, HB⟩ := hrel
    have hqn : q.length ≤ 1000 := by have := HQ.out; omega
    by_cases hz : 0 < q.length
    · have hzd : decide ((0 : Int) < (q.length : Int)) = true := decide_eq_true (by omega)
      have hfq : Fine q := by rw [HQD.out]; exact HL.out.drop _
      have hne : q ≠ [] := by intro e; subst e; simp at hz
      obtain ⟨u, BB⟩ := best r h0 hr q hqn hne hfq.one
      have hls := lns_step h0 hr hfq hne BB
      have hu1 := BB.ok.1
      have hu2 := BB.ok.2.1
      have HBB := Aside0.mk BB
      have HF := Aside0.mk hfq
      have HLS := Aside0.mk (show lns r l.length l = (out ++ [(u : Int)]) ++ lns r (q.drop u).length (q.drop u) by rw [HLN.out, hls, List.append_assoc, List.length_drop]; rfl)
      have HQD2 := Aside0.mk (show q.drop u = l.drop (l.length - (q.drop u).length) by
        conv => lhs; rw [HQD.out]
        rw [List.drop_drop, List.length_drop]; congr 1; have := HQ.out; omega)
      have hx6n : x6.getD q.length 0 = cst r q u := by
        rw [HA.out.2.2 q.length (by have := HQ.out; omega), ← HQD.out]; exact BB.bst
      have hx6k : ∀ k, k ≤ q.length → x6.getD (q.length - k) 0 = bst r (q.drop k) := fun k hk => by
        rw [HA.out.2.2 (q.length - k) (by have := HQ.out; omega)]
        conv => rhs; rw [HQD.out]
        rw [List.drop_drop]; congr 2; have := HQ.out; omega
      have HXN := Aside0.mk hx6n
      have HXK := Aside0.mk hx6k
      clear hx6n hx6k hls hfq hne BB
      obtain ⟨A3, hcut, hC3, hlen3, hle3⟩ := from_C HQC.out.1 HQC.out.2 u hu2
      rw [← hlen3] at hcut
      have HC3 := Aside0.mk (And.intro hC3 (by omega : (q.drop u).length ≤ c2 - u))
      clear hC3 hlen3 hle3
      have LM := Aside0.mk (show out.length ≤ 1000 by have := HOL.out; omega)
      have hx6l : x6.length = l.length + 1 := HA.out.1
      obtain ⟨g6, c6, e6, gb6, gl6, cl6, HG6⟩ := Kd.R_form HO6.out (by omega)
      have HX6 := Aside0.mk hx6l
      clear hx6l gb6 gl6 HG6 cl6
      have HE6 := Aside0.mk e6
      subst e6
      go_wp2
      go_loopg [8, 9, 10] q.length (fun kq v8 v9 v10 w' => ∃ (t s k : Int), v8 = .int .i64 t ∧ v9 = .int .i64 s ∧ v10 = .int .i64 k ∧ Aside0 (k = (q.length : Int) + 1 - kq ∧ 1 ≤ k) ∧ Aside0 (s = r - wid q (k.toNat - 1)) ∧ Aside0 (LastTo r q k.toNat u t) ∧ Aside0 (Kd.R (Kd.int .i64) 3 w' w.heap.size (fun k_ => some k_ ≠ (.slice (some ⟨g6, 0, none⟩) x6.length c6 : Value).ownBlock) u5 out) ∧ Aside0 (Kd.R (Kd.int .i64) 3 w' w.heap.size (fun k_ => some k_ ≠ (u5 : Value).ownBlock) (.slice (some ⟨g6, 0, none⟩) x6.length c6) x6) ∧ Aside0 (Below w.heap.size w w'))
      case atStart => exact ⟨_, _, _, rfl, rfl, rfl, ⟨by omega, by omega⟩, ⟨by rw [show wid q ((1 : Int).toNat - 1) = -1 from by cases q <;> rfl]; omega⟩, ⟨.inl ⟨by simpa using hu1, 0, rfl, by omega⟩⟩, HO, HO6, HB⟩
      case round =>
        clear HB HO HO6
        obtain ⟨t, s, k0, rfl, rfl, rfl, HK, HS, HMI, HO, HO6, HB⟩ := hrel
        obtain ⟨k, rfl⟩ := Int.eq_ofNat_of_zero_le (show 0 ≤ k0 by have := HK.out; omega)
        rw [Int.toNat_natCast] at HS HMI
        have hk1 : 1 ≤ k := by have := HK.out; omega
        have hkn2 : k ≤ 1001 := by have := HK.out; omega
        have hwb := wid_bd HF.out (k - 1) (by have := HK.out; omega)
        have hs1 : -30000 ≤ s := by rw [HS.out]; omega
        have hs2 : s ≤ 601 := by rw [HS.out]; omega
        clear hwb
        by_cases hkn : k ≤ q.length
        · have hkn' : (k : Int) ≤ q.length := by omega
          obtain ⟨ad, ea, hx⟩ := at_nat HQC.out.1 (k - 1) (by omega)
          cases ea
          replace hx := (HB.out.cell (World.block_lt_of_cell? w _ hx)).trans hx
          have hg := HF.out.at (i := k - 1) (by omega)
          have hws := wid_succ q (k - 1) (by omega)
          rw [show k - 1 + 1 = k by omega] at hws
          generalize hv : q.getD (k - 1) 0 = v at hx hg hws
          clear hv
          have hS : s - (v + 1) = r - wid q k := by rw [HS.out, hws]; omega
          have HSS := Aside0.mk hS
          clear hS hws
          have hg1 := hg.1
          have hg2 := hg.2
          clear hg
          have p1 : ((k : Int) - 1 < (q.length : Int)) = True := eq_true (by omega)
          obtain ⟨hc5, hf5⟩ := Kd.R_celln 0 HO6.out ((q.length - k : Nat) : Int) (by omega) (by have := HX6.out; have := HQ.out; omega)
          obtain ⟨hc9, hf9⟩ := Kd.R_celln 0 HO6.out ((q.length : Nat) : Int) (by omega) (by have := HX6.out; have := HQ.out; omega)
          rw [Int.toNat_natCast] at hc5 hc9
          have hrd : rdOf 0 x6 ((q.length - k : Nat) : Int) = bst r (q.drop k) := by unfold rdOf; rw [Int.toNat_natCast]; exact HXK.out k hkn
          have hrd2 : rdOf 0 x6 ((q.length : Nat) : Int) = cst r q u := by unfold rdOf; rw [Int.toNat_natCast]; exact HXN.out
          rw [hrd] at hc5
          rw [hrd2] at hc9
          have hbb := bst_bd (HF.out.drop k) h0 hr
          have hb0 := hbb.1
          have hbm := hbb.2
          have HCV := Aside0.mk (cst_val (r := r) (S := s - (v + 1)) (bv := bst r (q.drop k)) HSS.out rfl hkn)
          clear hrd hrd2 hf5 hf9 hbb
          generalize hbv : bst r (q.drop k) = bv at hc5 hb0 hbm HCV
          clear hbv
          obtain ⟨cu, hcu⟩ : ∃ cu, cu = cst r q u := ⟨_, rfl⟩
          rw [← hcu] at hc9
          have HCU := Aside0.mk hcu
          clear hcu
          have p2 : ((q.length : Int) - k < (x6.length : Int)) = True := eq_true (by have := HX6.out; have := HQ.out; omega)
          have p3 : ((q.length : Int) < (x6.length : Int)) = True := eq_true (by have := HX6.out; have := HQ.out; omega)
          have hsq := sq_any (s - (v + 1)) (by omega) (by omega)
          have hsq0 := hsq.1
          have hsq1 := hsq.2
          clear hsq
          by_cases hS0 : s - (v + 1) < 0
          · have hd1 : decide (s - (v + 1) < 0) = true := decide_eq_true hS0
            by_cases hk2 : (1 : Int) < k
            · have hte := last_end HBB.out HMI.out (none_behind HF.out.one (by omega) (by have := HSS.out; omega))
              subst hte
              clear hc5 hc9
              go_wp2_with (first | ((with_reducible refine gate_builtin (b := .append) (xs := #[.tmp 66, .tmp 68]) rfl ?_); at_builtin; refine Kd.R_append (Kd.int .i64) (w0 := w) w.heap.size rfl (.tmp 66) (.tmp 68) 24 3 (.int .i64 0) 8 rfl Try.underlying24 info3 rfl (by decide) (by omega) u5 out (u : Int) [.int .i64 (u : Int)] (fun k_ => some k_ ≠ (.slice (some ⟨g6, 0, none⟩) x6.length c6 : Value).ownBlock) (fun _ => False) rfl rfl ?aP1 (fun _ hk => hk.elim) ?aF1 ?aO1 ?aB1 ?aS1 ?aL1 ?_; (case aP1 => exact rfl); (case aB1 => exact (by repeat (first | (with_reducible first | exact HB.out | apply below_alloc | apply pw_below_drewN | apply below_drew1) | exact HB.out))); (case aF1 => exact (fun k_ hk => Kd.fresh' (Kd.R_lt (by (with_reducible repeat (first | apply Kd.R_alloc | apply Kd.R_drewN | apply Kd.R_drew)); exact HO6.out)) k_ hk)); (case aO1 => exact (by (with_reducible repeat (first | apply Kd.R_alloc | apply Kd.R_drewN | apply Kd.R_drew)); exact HO.out)); (case aS1 => exact (below_size (by repeat (first | (with_reducible first | exact HB.out | apply below_alloc | apply pw_below_drewN | apply below_drew1) | exact HB.out)))); (case aL1 => have := LM.out; omega); intro v4 w4 ho hb hg hat; have HO6b := Aside0.mk (Kd.R_after (ok := (fun _ => True)) (by (with_reducible repeat (first | apply Kd.R_alloc | apply Kd.R_drewN | apply Kd.R_drew)); exact Kd.R_mono HO6.out (fun _ hk => ⟨trivial, hk⟩)) hg hat); have HBb := Aside0.mk hb; have HOb := Aside0.mk ho; clear HO6 HB HO ho hb hg hat; have HO6 := HO6b; have HB := HBb; have HO := HOb; clear HO6b HBb HOb))
              go_roundg (q.length - u)
              case measure => have := HQ.out; omega
              case rel => exact ⟨out ++ [(u : Int)], q.drop u, A3, c2 - u, by rw [List.length_drop], ⟨by rw [List.length_drop], by rw [List.length_drop]; have := HQ.out; omega⟩, HQD2, HC3, HLS, ⟨by rw [List.length_drop, List.length_append]; have := HOL.out; simp; omega⟩, HO, ⟨Kd.R_mono HO6.out (fun _ hk => hk.2)⟩, HB⟩
            · have hd3 : decide (0 < s - (v + 1)) = false := decide_eq_false (by omega)
              have hok : ok r q k := ⟨hk1, hkn, by have := HSS.out; omega⟩
              have hcc := HCV.out
              rw [if_neg (by omega)] at hcc
              have HCC := Aside0.mk hcc
              have HOK := Aside0.mk hok
              clear hcc hok
              by_cases hb4 : bv = cu
              · have HM := Aside0.mk (last_hit HBB.out HOK.out (by rw [HCC.out, hb4, HCU.out]))
                have hd6 : ((bv) == cu) = true := beq_iff_eq.2 hb4
                clear hb4
                go_wp2
                go_roundg (q.length - k)
                case measure => have := HK.out; omega
                case rel => exact ⟨(k : Int), s - (v + 1), (k : Int) + 1, by go_num, by go_num, by go_num, ⟨by omega, by omega⟩, ⟨by rw [show ((k : Int) + 1).toNat - 1 = k by omega]; exact HSS.out⟩, ⟨by rw [show ((k : Int) + 1).toNat = k + 1 by omega]; exact HM.out⟩, HO, HO6, HB⟩
              · have HM := Aside0.mk (last_miss (by rw [HCC.out, ← HCU.out]; exact hb4) HMI.out)
                have hd6 : ((bv) == cu) = false := beq_eq_false_iff_ne.2 hb4
                clear hb4
                go_wp2
                go_roundg (q.length - k)
                case measure => have := HK.out; omega
                case rel => exact ⟨t, s - (v + 1), (k : Int) + 1, by go_num, by go_num, by go_num, ⟨by omega, by omega⟩, ⟨by rw [show ((k : Int) + 1).toNat - 1 = k by omega]; exact HSS.out⟩, ⟨by rw [show ((k : Int) + 1).toNat = k + 1 by omega]; exact HM.out⟩, HO, HO6, HB⟩
          · have hd1 : decide (s - (v + 1) < 0) = false := decide_eq_false hS0
            by_cases hS1 : 0 < s - (v + 1)
            · have hd3 : decide (0 < s - (v + 1)) = true := decide_eq_true hS1
              by_cases hk3 : (k : Int) < q.length
              · have hd4 : decide ((k : Int) < (q.length : Int)) = true := decide_eq_true hk3
                have hok : ok r q k := ⟨hk1, hkn, by have := HSS.out; omega⟩
                have hcc := HCV.out
                rw [if_pos ⟨hS1, by omega⟩] at hcc
                have HCC := Aside0.mk hcc
                have HOK := Aside0.mk hok
                clear hcc hok
                by_cases hb4 : bv + (s - (v + 1)) * (s - (v + 1)) = cu
                · have HM := Aside0.mk (last_hit HBB.out HOK.out (by rw [HCC.out, hb4, HCU.out]))
                  have hd6 : ((bv + (s - (v + 1)) * (s - (v + 1))) == cu) = true := beq_iff_eq.2 hb4
                  clear hb4
                  go_wp2
                  go_roundg (q.length - k)
                  case measure => have := HK.out; omega
                  case rel => exact ⟨(k : Int), s - (v + 1), (k : Int) + 1, by go_num, by go_num, by go_num, ⟨by omega, by omega⟩, ⟨by rw [show ((k : Int) + 1).toNat - 1 = k by omega]; exact HSS.out⟩, ⟨by rw [show ((k : Int) + 1).toNat = k + 1 by omega]; exact HM.out⟩, HO, HO6, HB⟩
                · have HM := Aside0.mk (last_miss (by rw [HCC.out, ← HCU.out]; exact hb4) HMI.out)
                  have hd6 : ((bv + (s - (v + 1)) * (s - (v + 1))) == cu) = false := beq_eq_false_iff_ne.2 hb4
                  clear hb4
                  go_wp2
                  go_roundg (q.length - k)
                  case measure => have := HK.out; omega
                  case rel => exact ⟨t, s - (v + 1), (k : Int) + 1, by go_num, by go_num, by go_num, ⟨by omega, by omega⟩, ⟨by rw [show ((k : Int) + 1).toNat - 1 = k by omega]; exact HSS.out⟩, ⟨by rw [show ((k : Int) + 1).toNat = k + 1 by omega]; exact HM.out⟩, HO, HO6, HB⟩
              · have hd4 : decide ((k : Int) < (q.length : Int)) = false := decide_eq_false hk3
                have hok : ok r q k := ⟨hk1, hkn, by have := HSS.out; omega⟩
                have hcc := HCV.out
                rw [if_neg (by omega)] at hcc
                have HCC := Aside0.mk hcc
                have HOK := Aside0.mk hok
                clear hcc hok
                by_cases hb4 : bv = cu
                · have HM := Aside0.mk (last_hit HBB.out HOK.out (by rw [HCC.out, hb4, HCU.out]))
                  have hd6 : ((bv) == cu) = true := beq_iff_eq.2 hb4
                  clear hb4
                  go_wp2
                  go_roundg (q.length - k)
                  case measure => have := HK.out; omega
                  case rel => exact ⟨(k : Int), s - (v + 1), (k : Int) + 1, by go_num, by go_num, by go_num, ⟨by omega, by omega⟩, ⟨by rw [show ((k : Int) + 1).toNat - 1 = k by omega]; exact HSS.out⟩, ⟨by rw [show ((k : Int) + 1).toNat = k + 1 by omega]; exact HM.out⟩, HO, HO6, HB⟩
                · have HM := Aside0.mk (last_miss (by rw [HCC.out, ← HCU.out]; exact hb4) HMI.out)
                  have hd6 : ((bv) == cu) = false := beq_eq_false_iff_ne.2 hb4
                  clear hb4
                  go_wp2
                  go_roundg (q.length - k)
                  case measure => have := HK.out; omega
                  case rel => exact ⟨t, s - (v + 1), (k : Int) + 1, by go_num, by go_num, by go_num, ⟨by omega, by omega⟩, ⟨by rw [show ((k : Int) + 1).toNat - 1 = k by omega]; exact HSS.out⟩, ⟨by rw [show ((k : Int) + 1).toNat = k + 1 by omega]; exact HM.out⟩, HO, HO6, HB⟩
            · have hd3 : decide (0 < s - (v + 1)) = false := decide_eq_false hS1
              have hok : ok r q k := ⟨hk1, hkn, by have := HSS.out; omega⟩
              have hcc := HCV.out
              rw [if_neg (by omega)] at hcc
              have HCC := Aside0.mk hcc
              have HOK := Aside0.mk hok
              clear hcc hok
              by_cases hb4 : bv = cu
              · have HM := Aside0.mk (last_hit HBB.out HOK.out (by rw [HCC.out, hb4, HCU.out]))
                have hd6 : ((bv) == cu) = true := beq_iff_eq.2 hb4
                clear hb4
                go_wp2
                go_roundg (q.length - k)
                case measure => have := HK.out; omega
                case rel => exact ⟨(k : Int), s - (v + 1), (k : Int) + 1, by go_num, by go_num, by go_num, ⟨by omega, by omega⟩, ⟨by rw [show ((k : Int) + 1).toNat - 1 = k by omega]; exact HSS.out⟩, ⟨by rw [show ((k : Int) + 1).toNat = k + 1 by omega]; exact HM.out⟩, HO, HO6, HB⟩
              · have HM := Aside0.mk (last_miss (by rw [HCC.out, ← HCU.out]; exact hb4) HMI.out)
                have hd6 : ((bv) == cu) = false := beq_eq_false_iff_ne.2 hb4
                clear hb4
                go_wp2
                go_roundg (q.length - k)
                case measure => have := HK.out; omega
                case rel => exact ⟨t, s - (v + 1), (k : Int) + 1, by go_num, by go_num, by go_num, ⟨by omega, by omega⟩, ⟨by rw [show ((k : Int) + 1).toNat - 1 = k by omega]; exact HSS.out⟩, ⟨by rw [show ((k : Int) + 1).toNat = k + 1 by omega]; exact HM.out⟩, HO, HO6, HB⟩
        · have hkn' : decide ((k : Int) ≤ (q.length : Int)) = false := decide_eq_false (by omega)
          have hte := last_end HBB.out HMI.out (fun j hj ho => by have := ho.2.1; omega)
          subst hte
          go_wp2_with (first | ((with_reducible refine gate_builtin (b := .append) (xs := #[.tmp 66, .tmp 68]) rfl ?_); at_builtin; refine Kd.R_append (Kd.int .i64) (w0 := w) w.heap.size rfl (.tmp 66) (.tmp 68) 24 3 (.int .i64 0) 8 rfl Try.underlying24 info3 rfl (by decide) (by omega) u5 out (u : Int) [.int .i64 (u : Int)] (fun k_ => some k_ ≠ (.slice (some ⟨g6, 0, none⟩) x6.length c6 : Value).ownBlock) (fun _ => False) rfl rfl ?aP2 (fun _ hk => hk.elim) ?aF2 ?aO2 ?aB2 ?aS2 ?aL2 ?_; (case aP2 => exact rfl); (case aB2 => exact (by repeat (first | (with_reducible first | exact HB.out | apply below_alloc | apply pw_below_drewN | apply below_drew1) | exact HB.out))); (case aF2 => exact (fun k_ hk => Kd.fresh' (Kd.R_lt (by (with_reducible repeat (first | apply Kd.R_alloc | apply Kd.R_drewN | apply Kd.R_drew)); exact HO6.out)) k_ hk)); (case aO2 => exact (by (with_reducible repeat (first | apply Kd.R_alloc | apply Kd.R_drewN | apply Kd.R_drew)); exact HO.out)); (case aS2 => exact (below_size (by repeat (first | (with_reducible first | exact HB.out | apply below_alloc | apply pw_below_drewN | apply below_drew1) | exact HB.out)))); (case aL2 => have := LM.out; omega); intro v4 w4 ho hb hg hat; have HO6b := Aside0.mk (Kd.R_after (ok := (fun _ => True)) (by (with_reducible repeat (first | apply Kd.R_alloc | apply Kd.R_drewN | apply Kd.R_drew)); exact Kd.R_mono HO6.out (fun _ hk => ⟨trivial, hk⟩)) hg hat); have HBb := Aside0.mk hb; have HOb := Aside0.mk ho; clear HO6 HB HO ho hb hg hat; have HO6 := HO6b; have HB := HBb; have HO := HOb; clear HO6b HBb HOb))
          go_roundg (q.length - u)
          case measure => have := HQ.out; omega
          case rel => exact ⟨out ++ [(u : Int)], q.drop u, A3, c2 - u, by rw [List.length_drop], ⟨by rw [List.length_drop], by rw [List.length_drop]; have := HQ.out; omega⟩, HQD2, HC3, HLS, ⟨by rw [List.length_drop, List.length_append]; have := HOL.out; simp; omega⟩, HO, ⟨Kd.R_mono HO6.out (fun _ hk => hk.2)⟩, HB⟩
    · have hzd : decide ((0 : Int) < (q.length : Int)) = false := decide_eq_false (by omega)
      have e : q = [] := List.length_eq_zero_iff.1 (by omega)
      have hres := Aside0.mk (show out = lns r l.length l by rw [HLN.out, e]; simp [lns])
      clear e
      go_wp2
      go_ret
      exact ⟨_, rfl, by rw [← hres.out]; exact Kd.R_mono HO.out (fun _ _ => trivial), HB.out⟩
end Go.Proofs.Ytkdhfbdecmfhcaa.FRefLines
