/- Proved: the reference's Least answers, for each count of last words, the least cost that the plain function tells, for words' widths from 1 to 23 (at most 1000) and rooms from 0 to 600, and leave old memory as it was. -/
import Derived.Test.YtkdhfbdecmfhcaaFWalks
namespace Go.Proofs.Ytkdhfbdecmfhcaa.FLeast
open Go.RowKit Go.Proofs.YtkdhfbdecmfhcaaW.PrintWords Go.Proofs.YtkdhfbdecmfhcaaW.PrintLast Go.Proofs.YtkdhfbdecmfhcaaW.PrintMore Go.Proofs.Ytkdhfbdecmfhcaa.FMath Go.Proofs.Ytkdhfbdecmfhcaa.FPlain Go.Proofs.Ytkdhfbdecmfhcaa.FWalks
set_option linter.unusedVariables false
set_option linter.unusedSimpArgs false
set_option maxHeartbeats 8000000 in
set_option maxRecDepth 100000 in
theorem least_calls (A : Option Addr) (c : Nat) (l : List Int) (r : Int) (w : World) (hR : (Kd.int .i64).C w A l.length l) (hc : l.length ≤ c) (hl : Fine l) (h0 : 0 ≤ r) (hr : r ≤ 600) :
    Calls Try.prog 21 #[.slice A l.length c, .int .i64 r] w fun e w' => ∃ v x, e = .returned v ∧ LeastArr l r x (l.length + 1) ∧ Kd.R (Kd.int .i64) 3 w' w.heap.size (fun _ => True) v x ∧ Below w.heap.size w w' := by
  have HR := Aside0.mk hR
  have HC := Aside0.mk hc
  have HL := Aside0.mk hl
  have hn := hl.1
  clear hR hc hl
  have HB := Aside0.mk (Below.refl w.heap.size w)
  go_enter Try.func21, Try.ntmps21
  go_wp2_with (first | ((with_reducible refine gate_dst (N := 12) rfl ?_); refine Kd.R_lit (Kd.int .i64) _ 3 ?hg (N := 12) ?hd (xs := ([0] : List Int)) (inner := [.int .i64 0]) (ok := fun _ => True) (okp := fun _ => True) ?hr ?hp (fun _ hk => hk) trivial (Below.refl _ _) (Nat.le_refl _) (by simp) ?_; (case hd => rfl); (case hg => rfl); (case hr => first | (go_simp; done) | (go_simp; rfl)); (case hp => exact (Reps.one (show Kd.M (Kd.int .i64) _ _ _ 0 [.int .i64 0] from rfl) (Reps.none _ _))); intro v5 w1 ho hb hg_ hnew_; clear hg_ hnew_; have HO := Aside0.mk (Kd.R_lower ho (below_size HB.out)); have HBb := Aside0.mk (below_step HB.out hb); clear HB; have HB := HBb; clear HBb hb ho))
  go_loopg [5, 6] l.length (fun kq v5 v6 w' => ∃ (x5 : List Int) (n : Int), v6 = .int .i64 n ∧ Aside0 (n = (l.length : Int) + 1 - kq ∧ 1 ≤ n) ∧ Aside0 (LeastArr l r x5 n.toNat) ∧ Aside0 (Kd.R (Kd.int .i64) 3 w' w.heap.size (fun _ => True) v5 x5) ∧ Aside0 (Below w.heap.size w w'))
  case atStart => exact ⟨[0], 1, rfl, ⟨by omega, by omega⟩, ⟨⟨rfl, by simp, fun m hm => by
      have : m = 0 := by simpa using hm
      subst this; simp [bst, tab]⟩⟩, HO, HB⟩
  case round =>
    clear HB HO
    obtain ⟨x5, n0, rfl, HN, HA, HO, HB⟩ := hrel
    obtain ⟨n, rfl⟩ := Int.eq_ofNat_of_zero_le (show 0 ≤ n0 by have := HN.out; omega)
    rw [Int.toNat_natCast] at HA
    by_cases hle : n ≤ l.length
    · have hn1 : 1 ≤ n := by have := HN.out; omega
      obtain ⟨A2, hcut, hC2, hlen, hle2⟩ := from_C HR.out HC.out (l.length - n) (by omega)
      rw [← hlen] at hcut
      have hlen2 : (l.drop (l.length - n)).length = n := by simp; omega
      have hfq : Fine (l.drop (l.length - n)) := HL.out.drop _
      have HSN := Aside0.mk (least_snoc HA.out hle)
      have hdm : ∀ k, k ≤ n → (l.drop (l.length - n)).drop k = l.drop (l.length - (n - k)) := fun k hk => by rw [List.drop_drop]; congr 1; omega
      have HDM := Aside0.mk hdm
      clear hdm
      generalize hq : l.drop (l.length - n) = q at hcut hC2 hlen2 hfq HSN HDM
      clear hq hlen hle2
      obtain ⟨u, BB⟩ := best r h0 hr q (by have := hfq.1; omega) (by intro e; subst e; simp at hlen2; omega) hfq.one
      have HBB := Aside0.mk BB
      have HF := Aside0.mk hfq
      have HQL := Aside0.mk hlen2
      have HC2 := Aside0.mk hC2
      have LM := Aside0.mk (show x5.length ≤ 1001 by have := HA.out.1; omega)
      clear BB hfq hC2
      have hcut2 : ∀ W : World, (Instr.slice 24 (.slice A l.length c) (some (.int .i64 ((l.length : Int) - n))) none none).run Try.prog W = .ok (.slice A2 q.length (c - (l.length - n))) W := by
        intro W; have := hcut W; rwa [show ((l.length - n : Nat) : Int) = (l.length : Int) - n by omega] at this
      clear hcut
      have hqn : q.length ≤ 1000 := by omega
      clear hlen2
      have hle3 : (n : Int) ≤ l.length := by omega
      have HLE := Aside0.mk hle
      go_wp2
      go_loopg [8, 9, 10] n (fun kq v8 v9 v10 w' => ∃ (b s k : Int), v8 = .int .i64 b ∧ v9 = .int .i64 s ∧ v10 = .int .i64 k ∧ Aside0 (k = (n : Int) + 1 - kq ∧ 1 ≤ k) ∧ Aside0 (s = r - wid q (k.toNat - 1)) ∧ Aside0 (MinTo r q k.toNat b) ∧ Aside0 (Kd.R (Kd.int .i64) 3 w' w.heap.size (fun _ => True) u5 x5) ∧ Aside0 (Below w.heap.size w w'))
      case atStart => exact ⟨_, _, _, rfl, rfl, rfl, ⟨by omega, by omega⟩, ⟨by rw [show wid q ((1 : Int).toNat - 1) = -1 from by cases q <;> rfl]; omega⟩, ⟨.inl ⟨rfl, rfl⟩⟩, HO, HB⟩
      case round =>
        clear HB HO
        obtain ⟨b, s, k0, rfl, rfl, rfl, HK, HS, HMI, HO, HB⟩ := hrel
        obtain ⟨k, rfl⟩ := Int.eq_ofNat_of_zero_le (show 0 ≤ k0 by have := HK.out; omega)
        rw [Int.toNat_natCast] at HS HMI
        have hk1 : 1 ≤ k := by have := HK.out; omega
        have hkn2 : k ≤ 1001 := by have := HK.out; omega
        have hwb := wid_bd HF.out (k - 1) (by have := HQL.out; have := HK.out; omega)
        have hs1 : -30000 ≤ s := by rw [HS.out]; omega
        have hs2 : s ≤ 601 := by rw [HS.out]; omega
        clear hwb
        by_cases hkn : k ≤ n
        · have hkn' : (k : Int) ≤ n := by omega
          obtain ⟨ad, ea, hx⟩ := at_nat HC2.out (k - 1) (by have := HQL.out; omega)
          cases ea
          replace hx := (HB.out.cell (World.block_lt_of_cell? w _ hx)).trans hx
          have hg := HF.out.at (i := k - 1) (by have := HQL.out; omega)
          have hws := wid_succ q (k - 1) (by have := HQL.out; omega)
          rw [show k - 1 + 1 = k by omega] at hws
          generalize hv : q.getD (k - 1) 0 = v at hx hg hws
          clear hv
          have hS : s - (v + 1) = r - wid q k := by rw [HS.out, hws]; omega
          have HSS := Aside0.mk hS
          clear hS hws
          have hg1 := hg.1
          have hg2 := hg.2
          clear hg
          have p1 : ((k : Int) - 1 < (q.length : Int)) = True := eq_true (by have := HQL.out; omega)
          obtain ⟨g5, c5, e5, gb5, gl5, cl5, HG5⟩ := Kd.R_form HO.out (by have := HA.out.1; omega)
          subst e5
          clear gb5 gl5 HG5 cl5
          obtain ⟨hc5, hf5⟩ := Kd.R_celln 0 HO.out ((n - k : Nat) : Int) (by omega) (by have := HA.out.1; omega)
          rw [Int.toNat_natCast] at hc5
          have hrd : rdOf 0 x5 ((n - k : Nat) : Int) = bst r (q.drop k) := by
            unfold rdOf; rw [Int.toNat_natCast, HDM.out k hkn]; exact HA.out.2.2 (n - k) (by omega)
          rw [hrd] at hc5
          have HX5 := Aside0.mk HA.out.1
          have hbb := bounds r h0 hr _ (q.drop k) rfl (by simp; omega) (HF.out.drop k).one
          have hbl : (q.drop k).length ≤ 1000 := by simp; omega
          have hb0 := hbb.1
          have hbm : bst r (q.drop k) ≤ 361201000 := by have := hbb.2; omega
          have HCV := Aside0.mk (cst_val (r := r) (S := s - (v + 1)) (bv := bst r (q.drop k)) HSS.out rfl (by have := HQL.out; omega))
          clear hrd hf5 hbb hbl
          generalize hbv : bst r (q.drop k) = bv at hc5 hb0 hbm HCV
          clear hbv
          have p2 : ((n : Int) - k < (x5.length : Int)) = True := eq_true (by have := HX5.out; omega)
          have HMN := Aside0.mk (min_neg HF.out h0 hr HMI.out)
          have hb1 : -1 ≤ b := by have := HMN.out; omega
          have hb2 : b ≤ 362000000 := by have := HMN.out; omega
          have hsq := sq_any (s - (v + 1)) (by omega) (by omega)
          have hsq0 := hsq.1
          have hsq1 := hsq.2
          clear hsq
          by_cases hS0 : s - (v + 1) < 0
          · have hd1 : decide (s - (v + 1) < 0) = true := decide_eq_true hS0
            by_cases hk2 : (1 : Int) < k
            · have HE := Aside0.mk (min_end HBB.out HMI.out (by omega) (none_behind HF.out.one (by omega) (by have := HSS.out; omega)))
              clear hc5
              go_wp2_with (first | ((with_reducible refine gate_builtin (b := .append) (xs := #[.tmp 72, .tmp 74]) rfl ?_); at_builtin; refine Kd.R_append (Kd.int .i64) (w0 := w) w.heap.size rfl (.tmp 72) (.tmp 74) 24 3 (.int .i64 0) 8 rfl Try.underlying24 info3 rfl (by decide) (by omega) (.slice (some ⟨g5, 0, none⟩) x5.length c5) x5 (b) [.int .i64 (b)] (fun _ => True) (fun _ => False) rfl rfl ?aP1 (fun _ hk => hk.elim) ?aF1 ?aO1 ?aB1 ?aS1 ?aL1 ?_; (case aP1 => exact rfl); (case aB1 => exact (by repeat (first | (with_reducible first | exact HB.out | apply below_alloc | apply pw_below_drewN | apply below_drew1) | exact HB.out))); (case aF1 => exact (fun k_ hk => trivial)); (case aO1 => exact (by (with_reducible repeat (first | apply Kd.R_alloc | apply Kd.R_drewN | apply Kd.R_drew)); exact HO.out)); (case aS1 => exact (below_size (by repeat (first | (with_reducible first | exact HB.out | apply below_alloc | apply pw_below_drewN | apply below_drew1) | exact HB.out)))); (case aL1 => have := LM.out; omega); intro v4 w4 ho hb hg hat; have HOb := Aside0.mk ho; have HBb := Aside0.mk hb; clear HB HO ho hb hg hat; have HO := HOb; have HB := HBb; clear HOb HBb))
              go_roundg (l.length - n)
              case measure => have := HN.out; have := HLE.out; omega
              case rel => exact ⟨x5 ++ [b], (n : Int) + 1, by go_num, ⟨by have := HLE.out; omega, by omega⟩, ⟨by rw [show ((n : Int) + 1).toNat = n + 1 by omega, HE.out]; exact HSN.out⟩, HO, HB⟩
            · have hd3 : decide (0 < s - (v + 1)) = false := decide_eq_false (by omega)
              have HM := min_step HMI.out ⟨hk1, by have := HQL.out; omega, by have := HSS.out; omega⟩
              have hcc := HCV.out
              rw [if_neg (by omega)] at hcc
              rw [hcc] at HM
              clear hcc
              have HMB := Aside0.mk HM
              clear HM
              by_cases hb3 : b < 0
              · have hk4 : k = 1 := by have := HMN.out; omega
                have HM2 := HMB.out
                rw [if_pos ⟨hb3, hk4⟩] at HM2
                have HM3 := Aside0.mk HM2
                clear HM2 hk4
                have hd5 : decide (b < 0) = true := decide_eq_true hb3
                go_wp2
                go_roundg (n - k)
                case measure => have := HK.out; omega
                case rel => exact ⟨bv, s - (v + 1), (k : Int) + 1, by go_num, by go_num, by go_num, ⟨by omega, by omega⟩, ⟨by rw [show ((k : Int) + 1).toNat - 1 = k by omega]; exact HSS.out⟩, ⟨by rw [show ((k : Int) + 1).toNat = k + 1 by omega]; exact HM3.out⟩, HO, HB⟩
              · have hd5 : decide (b < 0) = false := decide_eq_false hb3
                have HM2 := HMB.out
                rw [if_neg (fun h => hb3 h.1)] at HM2
                by_cases hb4 : bv < b
                · rw [if_pos hb4] at HM2
                  have HM3 := Aside0.mk HM2
                  clear HM2
                  have hd6 : decide (bv < b) = true := decide_eq_true hb4
                  go_wp2
                  go_roundg (n - k)
                  case measure => have := HK.out; omega
                  case rel => exact ⟨bv, s - (v + 1), (k : Int) + 1, by go_num, by go_num, by go_num, ⟨by omega, by omega⟩, ⟨by rw [show ((k : Int) + 1).toNat - 1 = k by omega]; exact HSS.out⟩, ⟨by rw [show ((k : Int) + 1).toNat = k + 1 by omega]; exact HM3.out⟩, HO, HB⟩
                · rw [if_neg hb4] at HM2
                  have HM3 := Aside0.mk HM2
                  clear HM2
                  have hd6 : decide (bv < b) = false := decide_eq_false hb4
                  go_wp2
                  go_roundg (n - k)
                  case measure => have := HK.out; omega
                  case rel => exact ⟨b, s - (v + 1), (k : Int) + 1, by go_num, by go_num, by go_num, ⟨by omega, by omega⟩, ⟨by rw [show ((k : Int) + 1).toNat - 1 = k by omega]; exact HSS.out⟩, ⟨by rw [show ((k : Int) + 1).toNat = k + 1 by omega]; exact HM3.out⟩, HO, HB⟩
          · have hd1 : decide (s - (v + 1) < 0) = false := decide_eq_false hS0
            by_cases hS1 : 0 < s - (v + 1)
            · have hd3 : decide (0 < s - (v + 1)) = true := decide_eq_true hS1
              by_cases hk3 : (k : Int) < n
              · have hd4 : decide ((k : Int) < (n : Int)) = true := decide_eq_true hk3
                have HM := min_step HMI.out ⟨hk1, by have := HQL.out; omega, by have := HSS.out; omega⟩
                have hcc := HCV.out
                rw [if_pos ⟨hS1, by have := HQL.out; omega⟩] at hcc
                rw [hcc] at HM
                clear hcc
                have HMB := Aside0.mk HM
                clear HM
                by_cases hb3 : b < 0
                · have hk4 : k = 1 := by have := HMN.out; omega
                  have HM2 := HMB.out
                  rw [if_pos ⟨hb3, hk4⟩] at HM2
                  have HM3 := Aside0.mk HM2
                  clear HM2 hk4
                  have hd5 : decide (b < 0) = true := decide_eq_true hb3
                  go_wp2
                  go_roundg (n - k)
                  case measure => have := HK.out; omega
                  case rel => exact ⟨bv + (s - (v + 1)) * (s - (v + 1)), s - (v + 1), (k : Int) + 1, by go_num, by go_num, by go_num, ⟨by omega, by omega⟩, ⟨by rw [show ((k : Int) + 1).toNat - 1 = k by omega]; exact HSS.out⟩, ⟨by rw [show ((k : Int) + 1).toNat = k + 1 by omega]; exact HM3.out⟩, HO, HB⟩
                · have hd5 : decide (b < 0) = false := decide_eq_false hb3
                  have HM2 := HMB.out
                  rw [if_neg (fun h => hb3 h.1)] at HM2
                  by_cases hb4 : bv + (s - (v + 1)) * (s - (v + 1)) < b
                  · rw [if_pos hb4] at HM2
                    have HM3 := Aside0.mk HM2
                    clear HM2
                    have hd6 : decide (bv + (s - (v + 1)) * (s - (v + 1)) < b) = true := decide_eq_true hb4
                    go_wp2
                    go_roundg (n - k)
                    case measure => have := HK.out; omega
                    case rel => exact ⟨bv + (s - (v + 1)) * (s - (v + 1)), s - (v + 1), (k : Int) + 1, by go_num, by go_num, by go_num, ⟨by omega, by omega⟩, ⟨by rw [show ((k : Int) + 1).toNat - 1 = k by omega]; exact HSS.out⟩, ⟨by rw [show ((k : Int) + 1).toNat = k + 1 by omega]; exact HM3.out⟩, HO, HB⟩
                  · rw [if_neg hb4] at HM2
                    have HM3 := Aside0.mk HM2
                    clear HM2
                    have hd6 : decide (bv + (s - (v + 1)) * (s - (v + 1)) < b) = false := decide_eq_false hb4
                    go_wp2
                    go_roundg (n - k)
                    case measure => have := HK.out; omega
                    case rel => exact ⟨b, s - (v + 1), (k : Int) + 1, by go_num, by go_num, by go_num, ⟨by omega, by omega⟩, ⟨by rw [show ((k : Int) + 1).toNat - 1 = k by omega]; exact HSS.out⟩, ⟨by rw [show ((k : Int) + 1).toNat = k + 1 by omega]; exact HM3.out⟩, HO, HB⟩
              · have hd4 : decide ((k : Int) < (n : Int)) = false := decide_eq_false hk3
                have HM := min_step HMI.out ⟨hk1, by have := HQL.out; omega, by have := HSS.out; omega⟩
                have hcc := HCV.out
                rw [if_neg (by have := HQL.out; omega)] at hcc
                rw [hcc] at HM
                clear hcc
                have HMB := Aside0.mk HM
                clear HM
                by_cases hb3 : b < 0
                · have hk4 : k = 1 := by have := HMN.out; omega
                  have HM2 := HMB.out
                  rw [if_pos ⟨hb3, hk4⟩] at HM2
                  have HM3 := Aside0.mk HM2
                  clear HM2 hk4
                  have hd5 : decide (b < 0) = true := decide_eq_true hb3
                  go_wp2
                  go_roundg (n - k)
                  case measure => have := HK.out; omega
                  case rel => exact ⟨bv, s - (v + 1), (k : Int) + 1, by go_num, by go_num, by go_num, ⟨by omega, by omega⟩, ⟨by rw [show ((k : Int) + 1).toNat - 1 = k by omega]; exact HSS.out⟩, ⟨by rw [show ((k : Int) + 1).toNat = k + 1 by omega]; exact HM3.out⟩, HO, HB⟩
                · have hd5 : decide (b < 0) = false := decide_eq_false hb3
                  have HM2 := HMB.out
                  rw [if_neg (fun h => hb3 h.1)] at HM2
                  by_cases hb4 : bv < b
                  · rw [if_pos hb4] at HM2
                    have HM3 := Aside0.mk HM2
                    clear HM2
                    have hd6 : decide (bv < b) = true := decide_eq_true hb4
                    go_wp2
                    go_roundg (n - k)
                    case measure => have := HK.out; omega
                    case rel => exact ⟨bv, s - (v + 1), (k : Int) + 1, by go_num, by go_num, by go_num, ⟨by omega, by omega⟩, ⟨by rw [show ((k : Int) + 1).toNat - 1 = k by omega]; exact HSS.out⟩, ⟨by rw [show ((k : Int) + 1).toNat = k + 1 by omega]; exact HM3.out⟩, HO, HB⟩
                  · rw [if_neg hb4] at HM2
                    have HM3 := Aside0.mk HM2
                    clear HM2
                    have hd6 : decide (bv < b) = false := decide_eq_false hb4
                    go_wp2
                    go_roundg (n - k)
                    case measure => have := HK.out; omega
                    case rel => exact ⟨b, s - (v + 1), (k : Int) + 1, by go_num, by go_num, by go_num, ⟨by omega, by omega⟩, ⟨by rw [show ((k : Int) + 1).toNat - 1 = k by omega]; exact HSS.out⟩, ⟨by rw [show ((k : Int) + 1).toNat = k + 1 by omega]; exact HM3.out⟩, HO, HB⟩
            · have hd3 : decide (0 < s - (v + 1)) = false := decide_eq_false hS1
              have HM := min_step HMI.out ⟨hk1, by have := HQL.out; omega, by have := HSS.out; omega⟩
              have hcc := HCV.out
              rw [if_neg (by omega)] at hcc
              rw [hcc] at HM
              clear hcc
              have HMB := Aside0.mk HM
              clear HM
              by_cases hb3 : b < 0
              · have hk4 : k = 1 := by have := HMN.out; omega
                have HM2 := HMB.out
                rw [if_pos ⟨hb3, hk4⟩] at HM2
                have HM3 := Aside0.mk HM2
                clear HM2 hk4
                have hd5 : decide (b < 0) = true := decide_eq_true hb3
                go_wp2
                go_roundg (n - k)
                case measure => have := HK.out; omega
                case rel => exact ⟨bv, s - (v + 1), (k : Int) + 1, by go_num, by go_num, by go_num, ⟨by omega, by omega⟩, ⟨by rw [show ((k : Int) + 1).toNat - 1 = k by omega]; exact HSS.out⟩, ⟨by rw [show ((k : Int) + 1).toNat = k + 1 by omega]; exact HM3.out⟩, HO, HB⟩
              · have hd5 : decide (b < 0) = false := decide_eq_false hb3
                have HM2 := HMB.out
                rw [if_neg (fun h => hb3 h.1)] at HM2
                by_cases hb4 : bv < b
                · rw [if_pos hb4] at HM2
                  have HM3 := Aside0.mk HM2
                  clear HM2
                  have hd6 : decide (bv < b) = true := decide_eq_true hb4
                  go_wp2
                  go_roundg (n - k)
                  case measure => have := HK.out; omega
                  case rel => exact ⟨bv, s - (v + 1), (k : Int) + 1, by go_num, by go_num, by go_num, ⟨by omega, by omega⟩, ⟨by rw [show ((k : Int) + 1).toNat - 1 = k by omega]; exact HSS.out⟩, ⟨by rw [show ((k : Int) + 1).toNat = k + 1 by omega]; exact HM3.out⟩, HO, HB⟩
                · rw [if_neg hb4] at HM2
                  have HM3 := Aside0.mk HM2
                  clear HM2
                  have hd6 : decide (bv < b) = false := decide_eq_false hb4
                  go_wp2
                  go_roundg (n - k)
                  case measure => have := HK.out; omega
                  case rel => exact ⟨b, s - (v + 1), (k : Int) + 1, by go_num, by go_num, by go_num, ⟨by omega, by omega⟩, ⟨by rw [show ((k : Int) + 1).toNat - 1 = k by omega]; exact HSS.out⟩, ⟨by rw [show ((k : Int) + 1).toNat = k + 1 by omega]; exact HM3.out⟩, HO, HB⟩
        · have hkn' : decide ((k : Int) ≤ (n : Int)) = false := decide_eq_false (by omega)
          have HE := Aside0.mk (min_end HBB.out HMI.out (by omega) (fun j hj ho => by have := ho.2.1; have := HQL.out; omega))
          have HBD := bst_bd HF.out h0 hr
          obtain ⟨g5, c5, e5, gb5, gl5, cl5, HG5⟩ := Kd.R_form HO.out (by have := HA.out.1; omega)
          subst e5
          clear gb5 gl5 HG5 cl5
          go_wp2_with (first | ((with_reducible refine gate_builtin (b := .append) (xs := #[.tmp 72, .tmp 74]) rfl ?_); at_builtin; refine Kd.R_append (Kd.int .i64) (w0 := w) w.heap.size rfl (.tmp 72) (.tmp 74) 24 3 (.int .i64 0) 8 rfl Try.underlying24 info3 rfl (by decide) (by omega) (.slice (some ⟨g5, 0, none⟩) x5.length c5) x5 (b) [.int .i64 (b)] (fun _ => True) (fun _ => False) rfl rfl ?aP2 (fun _ hk => hk.elim) ?aF2 ?aO2 ?aB2 ?aS2 ?aL2 ?_; (case aP2 => exact rfl); (case aB2 => exact (by repeat (first | (with_reducible first | exact HB.out | apply below_alloc | apply pw_below_drewN | apply below_drew1) | exact HB.out))); (case aF2 => exact (fun k_ hk => trivial)); (case aO2 => exact (by (with_reducible repeat (first | apply Kd.R_alloc | apply Kd.R_drewN | apply Kd.R_drew)); exact HO.out)); (case aS2 => exact (below_size (by repeat (first | (with_reducible first | exact HB.out | apply below_alloc | apply pw_below_drewN | apply below_drew1) | exact HB.out)))); (case aL2 => have := LM.out; omega); intro v4 w4 ho hb hg hat; have HOb := Aside0.mk ho; have HBb := Aside0.mk hb; clear HB HO ho hb hg hat; have HO := HOb; have HB := HBb; clear HOb HBb))
          go_roundg (l.length - n)
          case measure => have := HN.out; have := HLE.out; omega
          case rel => exact ⟨x5 ++ [b], (n : Int) + 1, by go_num, ⟨by have := HLE.out; omega, by omega⟩, ⟨by rw [show ((n : Int) + 1).toNat = n + 1 by omega, HE.out]; exact HSN.out⟩, HO, HB⟩
    · have e : n = l.length + 1 := by have := HN.out; omega
      subst e
      have hd : decide (((l.length + 1 : Nat) : Int) ≤ (l.length : Int)) = false := decide_eq_false (by omega)
      have hd2 : decide ((l.length : Int) + 1 ≤ (l.length : Int)) = false := decide_eq_false (by omega)
      go_wp2
      go_ret
      exact ⟨_, x5, rfl, HA.out, HO.out, HB.out⟩
end Go.Proofs.Ytkdhfbdecmfhcaa.FLeast
