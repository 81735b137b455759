/- Proved: the program's fill.Lines, called with words' widths from 1 to 23 (at most 1000 of them) and a room from 0 to 600, answers the list of line lengths that the plain function lns tells, and leaves old memory as it was. -/
import Derived.Test.YtkdhfbdecmfhcaaFWalks
namespace Go.Proofs.Ytkdhfbdecmfhcaa.FLines
open Go.RowKit Go.Proofs.YtkdhfbdecmfhcaaW.PrintWords Go.Proofs.YtkdhfbdecmfhcaaW.PrintLast Go.Proofs.YtkdhfbdecmfhcaaW.PrintMore Go.Proofs.Ytkdhfbdecmfhcaa.FMath Go.Proofs.Ytkdhfbdecmfhcaa.FPlain Go.Proofs.Ytkdhfbdecmfhcaa.FWalks
set_option linter.unusedVariables false
set_option linter.unusedSimpArgs false
theorem arr_end {l y6 y7 : List Int} {r : Int} {i : Nat} (hi : i < l.length) (hB : BestArr l r y6 (i + 1)) (hT : y7.length = l.length ∧ (∀ j, i + 1 ≤ j → j < l.length → y7.getD j 0 = tk r (l.drop j)) ∧ ∀ j, j < i → y7.getD j 0 = 0) (h : (bst r (l.drop i), tk r (l.drop i)) = (y6.getD i 0, y7.getD i 0)) : BestArr l r y6 i ∧ TakeArr l r y7 i := by
  obtain ⟨h1, h2⟩ := Prod.mk.inj h
  refine ⟨⟨hB.1, fun j hj hj2 => ?_⟩, hT.1, fun j hj hj2 => ?_, hT.2.2⟩
  · by_cases e : j = i
    · subst e; exact h1.symm
    · exact hB.2 j (by omega) hj2
  · by_cases e : j = i
    · subst e; exact h2.symm
    · exact hT.2.1 j (by omega) hj2
theorem round_more {l : List Int} {r : Int} {i k : Nat} {S a6 a7 cost bv : Int} {b : Int × Int} (hk : 1 ≤ k) (hik : i + k ≤ l.length)
    (HGO : b = if r < S ∧ 1 < (k : Int) then (a6, a7) else go r S ((k : Int) + 1) (l.drop (i + k)) (tab r (l.drop (i + k))).tail (if lc r S (l.drop (i + k)).isEmpty + ((tab r (l.drop (i + k))).headD (0, 0)).1 ≤ a6 then (lc r S (l.drop (i + k)).isEmpty + ((tab r (l.drop (i + k))).headD (0, 0)).1, (k : Int)) else (a6, a7)))
    (hc : ¬ (r < S ∧ 1 < (k : Int))) (hcost : cost = if i + k < l.length ∧ 0 < r - S then (r - S) * (r - S) else 0) (hbv : bst r (l.drop (i + k)) = bv) :
    b = go r S ((k : Int) + 1) (l.drop (i + (((k : Int) + 1).toNat - 1))) (tab r (l.drop (i + ((k : Int) + 1).toNat))) (if cost + bv ≤ a6 then (cost + bv, (k : Int)) else (a6, a7)) := by
  rw [if_neg hc] at HGO
  have e1 : ((k : Int) + 1).toNat = k + 1 := by omega
  rw [e1, show k + 1 - 1 = k by omega]
  have emp : (l.drop (i + k)).isEmpty = decide (i + k = l.length) := by rw [Bool.eq_iff_iff]; simp; omega
  have hlc : lc r S (l.drop (i + k)).isEmpty = cost := by
    rw [emp, hcost]; unfold lc
    by_cases h : i + k = l.length
    · rw [if_pos (by simp [h]), if_neg (by omega)]
    · rw [if_neg (by simp [h])]
      by_cases h2 : 0 < r - S
      · rw [if_pos h2, if_pos ⟨by omega, h2⟩]
      · rw [if_neg h2, if_neg (fun h => h2 h.2)]
  have hh : ((tab r (l.drop (i + k))).headD (0, 0)).1 = bv := hbv
  rw [hlc, hh] at HGO
  rw [HGO]
  by_cases h : i + k = l.length
  · rw [List.drop_of_length_le (by omega)]; rfl
  · rw [drop_at l (i + k) (by omega)]; rfl
set_option maxHeartbeats 8000000 in
set_option maxRecDepth 100000 in
theorem lines_calls (A0 : Option Addr) (c0 : Nat) (l : List Int) (r : Int) (w : World) (hr0 : Kd.C (Kd.int .i64) w A0 l.length l) (hc0 : l.length ≤ c0) (hl : Fine l) (h0 : 0 ≤ r) (hr : r ≤ 600) :
    Calls Try.prog 19 #[.slice A0 l.length c0, .int .i64 r] w fun e w' => ∃ v0_ : Value, e = .returned v0_ ∧ Kd.R (Kd.int .i64) 3 w' w.heap.size (fun _ => True) v0_ (lns r l.length l) ∧ Below w.heap.size w w' := by
  have HR0 := Aside0.mk hr0
  have HC0 := Aside0.mk hc0
  have HL := Aside0.mk hl
  have hn := hl.1
  clear hr0 hc0 hl
  have HB := Aside0.mk (Below.refl w.heap.size w)
  obtain ⟨n1, hn1⟩ : ∃ n1 : Int, n1 = (l.length : Int) + 1 := ⟨_, rfl⟩
  have Hn1 : IntKind.i64.wrap ((l.length : Int) + 1) = n1 := by rw [hn1]; exact w64 (by omega) (by omega)
  have N1 := Aside0.mk hn1
  have n10 : 0 ≤ n1 := by omega
  have n11 : n1.toNat ≤ 1001 := by omega
  have n12 : (l.length : Int).toNat ≤ 1000 := by omega
  clear hn1
  go_enter Try.func19, Try.ntmps19
  go_wp2_with (first
    | ((with_reducible refine gate_dst (N := 19) rfl ?_); refine Kd.R_make (Kd.int .i64) _ 3 rfl (N := 19) rfl 24 _ _ rfl n1 rfl rfl Try.underlying24 (.int .i64 0) 8 info3 rfl (by decide) (by omega) 0 (ok := fun _ => True) (okp := fun _ => True) rfl (fun _ hk => hk) trivial n10 (by omega) (Below.refl _ _) (Nat.le_refl _) ?_; intro v6 w1 ho hb hg_ hnew_; clear hg_ hnew_; have HO6 := Aside0.mk (Kd.R_lower ho (below_size HB.out)); have HB1 := Aside0.mk (below_step HB.out hb); clear HB; have HB := HB1; clear HB1 hb ho)
    | ((with_reducible refine gate_dst (N := 21) rfl ?_); refine Kd.R_make (Kd.int .i64) _ 3 rfl (N := 21) rfl 24 _ _ rfl (l.length : Int) rfl rfl Try.underlying24 (.int .i64 0) 8 info3 rfl (by decide) (by omega) 0 (ok := fun _ => True) (okp := fun _ => True) rfl (fun _ hk => hk) trivial (by omega) (by omega) (Below.refl _ _) (Nat.le_refl _) ?_; intro v7 w2 ho hb hg_ hnew_; clear hg_ hnew_; have HO6b := Aside0.mk (Kd.R_elder' HO6.out (Kd.R_base ho) hb); have HO7 := Aside0.mk (Kd.R_lower (Kd.R_new' ho (Kd.R_lt HO6.out)) (below_size HB.out)); have HB1 := Aside0.mk (below_step HB.out hb); clear HB HO6; have HO6 := HO6b; have HB := HB1; clear HO6b HB1 hb ho))
  clear n10 n11 n12
  go_loopg [8] l.length (fun kq v8 w' => ∃ (x6 x7 : List Int) (x8 : Int), v8 = .int .i64 x8 ∧ Aside0 (x8 = (kq : Int) - 1) ∧ Aside0 (kq ≤ l.length) ∧ Aside0 (BestArr l r x6 kq) ∧ Aside0 (TakeArr l r x7 kq) ∧ Aside0 (Kd.R (Kd.int .i64) 3 w' w.heap.size (fun k_ => some k_ ≠ (v7 : Value).ownBlock) v6 x6) ∧ Aside0 (Kd.R (Kd.int .i64) 3 w' w.heap.size (fun k_ => some k_ ≠ (v6 : Value).ownBlock) v7 x7) ∧ Aside0 (Below w.heap.size w w'))
  case atStart =>
    refine ⟨_, _, _, rfl, ⟨rfl⟩, ⟨Nat.le_refl _⟩, ⟨?_⟩, ⟨?_⟩, ⟨Kd.R_mono HO6.out (fun _ hk => hk.2)⟩, ⟨Kd.R_mono HO7.out (fun _ hk => hk.2)⟩, ⟨HB.out⟩⟩
    · refine ⟨by rw [N1.out]; simp, fun j hj hj2 => ?_⟩
      have : j = l.length := by omega
      subst this; rw [N1.out]; simp [bst, tab, List.getD_eq_getElem?_getD]
    · exact ⟨by simp, fun j hj hj2 => by omega, fun j hj => by simp [List.getD_eq_getElem?_getD, hj]⟩
  case round =>
    clear HB HO6 HO7
    obtain ⟨x6, x7, x8, rfl, HX8, HKQ, HBA, HTA, HO6, HO7, HB⟩ := hrel
    cases gk with
    | zero => 
      obtain rfl : x8 = -1 := by have := HX8.out; omega
      go_wp2
      clear HX8 HKQ HBA
      go_loopg [13, 14] l.length (fun kq v13 v14 w' => ∃ (out : List Int) (p : Int), v14 = .int .i64 p ∧ Aside0 (p = (l.length : Int) - kq) ∧ Aside0 (0 ≤ p) ∧ Aside0 (lns r l.length l = out ++ lns r (l.length - p.toNat) (l.drop p.toNat)) ∧ Aside0 (out.length ≤ p.toNat) ∧ Aside0 (Kd.R (Kd.int .i64) 3 w' w.heap.size (fun k_ => some k_ ≠ (v13 : Value).ownBlock) v7 x7) ∧ Aside0 (Kd.R (Kd.int .i64) 3 w' w.heap.size (fun k_ => some k_ ≠ (v7 : Value).ownBlock) v13 out) ∧ Aside0 (Below w.heap.size w w'))
      case atStart =>
        exact ⟨[], 0, rfl, ⟨by omega⟩, ⟨by omega⟩, ⟨by simp⟩, ⟨by simp⟩, ⟨Kd.R_mono (Kd.R_apart_nil (Kd.R_mono HO7.out (fun _ _ => trivial) : Kd.R (Kd.int .i64) 3 _ _ (fun _ => True) _ _)) (fun _ hk => hk.2)⟩, ⟨Kd.R_nil _ _ _ _ _⟩, ⟨HB.out⟩⟩
      case round =>
        clear HB HO7 HO6
        obtain ⟨out, p0, rfl, HP0, HP1, HLN, HOL, HO7, HO13, HB⟩ := hrel
        obtain ⟨p, rfl⟩ := Int.eq_ofNat_of_zero_le HP1.out
        rw [Int.toNat_natCast] at HLN HOL
        have hpk := HP0.out
        by_cases hlt : p < l.length
        · have hne : l.drop p ≠ [] := by simp; omega
          obtain ⟨t, b⟩ := best r h0 hr (l.drop p) (by simp; omega) hne (HL.out.drop p).one
          have ht1 := b.ok.1
          have ht2 := b.ok.2.1
          have hdl : (l.drop p).length = l.length - p := by simp
          rw [hdl] at ht2
          have hx : x7.getD p 0 = (t : Int) := by rw [HTA.out.2.1 p (by omega) hlt]; exact b.tk
          have hx7 := HTA.out.1
          have hln2 : lns r l.length l = (out ++ [(t : Int)]) ++ lns r (l.length - (p + t)) (l.drop (p + t)) := by
            rw [HLN.out, List.append_assoc]; congr 1
            obtain ⟨m, hm⟩ : ∃ m, l.length - p = m + 1 := ⟨l.length - p - 1, by omega⟩
            rw [hm]
            conv => lhs; unfold lns
            rw [if_neg hne, b.tk, Int.toNat_natCast, List.drop_drop]
            show (t : Int) :: _ = (t : Int) :: _
            congr 1
            exact lns_fuel r h0 hr _ _ _ (by simp; omega) (by simp) (by simp; omega) (HL.out.drop _).one
          obtain ⟨g7, c7, e7, gb7, gl7, cl7, HG7⟩ := Kd.R_form HO7.out (by omega)
          subst e7
          clear gb7 gl7 HG7 cl7
          obtain ⟨hc7, hf7⟩ := Kd.R_celln 0 HO7.out (p : Int) (by omega) (by omega)
          rw [Int.toNat_natCast] at hc7
          have e : rdOf 0 x7 (p : Int) = (t : Int) := by unfold rdOf; rw [Int.toNat_natCast]; exact hx
          rw [e] at hc7
          clear hf7 e
          have LM := Aside0.mk HOL.out
          have HXT := Aside0.mk hx
          have HLN2 := Aside0.mk hln2
          have HX7 := Aside0.mk hx7
          have p1 : ((p : Int) < (x7.length : Int)) = True := eq_true (by omega)
          have hpt : p + t ≤ l.length := by omega
          have HPK := Aside0.mk hpk
          clear hpk hln2 hx hdl b hx7 HLN HP0
          go_wp2_with (first | ((with_reducible refine gate_builtin (b := .append) (xs := #[.tmp 101, .tmp 106]) rfl ?_); at_builtin; refine Kd.R_append (Kd.int .i64) (w0 := w) w.heap.size rfl (.tmp 101) (.tmp 106) 24 3 (.int .i64 0) 8 rfl Try.underlying24 info3 rfl (by decide) (by omega) u13 out (t : Int) [.int .i64 (t : Int)] (fun k_ => some k_ ≠ (.slice (some ⟨g7, 0, none⟩) x7.length c7 : Value).ownBlock) (fun _ => False) rfl rfl ?aP (fun _ hk => hk.elim) ?aF ?aO ?aB ?aS ?aL ?_; (case aP => exact rfl); (case aB => exact (by repeat (first | (with_reducible first | exact HB.out | apply below_alloc | apply pw_below_drewN | apply below_drew1) | exact HB.out))); (case aF => exact (fun k_ hk => Kd.fresh' (Kd.R_lt (by (with_reducible repeat (first | apply Kd.R_alloc | apply Kd.R_drewN | apply Kd.R_drew)); exact HO7.out)) k_ hk)); (case aO => exact (by (with_reducible repeat (first | apply Kd.R_alloc | apply Kd.R_drewN | apply Kd.R_drew)); exact HO13.out)); (case aS => exact (below_size (by repeat (first | (with_reducible first | exact HB.out | apply below_alloc | apply pw_below_drewN | apply below_drew1) | exact HB.out)))); (case aL => have := LM.out; omega); intro v4 w4 ho hb hg hat; have HO7b := Aside0.mk (Kd.R_after (ok := (fun _ => True)) (by (with_reducible repeat (first | apply Kd.R_alloc | apply Kd.R_drewN | apply Kd.R_drew)); exact Kd.R_mono HO7.out (fun _ hk => ⟨trivial, hk⟩)) hg hat); have HBb := Aside0.mk hb; have HO13b := Aside0.mk ho; clear HO7 HB HO13; clear ho hb hg hat; obtain ⟨hc7b, hf7b⟩ := Kd.R_celln 0 HO7b.out (p : Int) (by omega) (by have := HX7.out; omega); rw [Int.toNat_natCast] at hc7b; rw [show rdOf 0 x7 (p : Int) = (t : Int) from by unfold rdOf; rw [Int.toNat_natCast]; exact HXT.out] at hc7b))
          go_roundg (l.length - (p + t))
          case measure => have := HPK.out; omega
          case rel =>
            refine ⟨out ++ [(t : Int)], ((p + t : Nat) : Int), by go_num, ⟨by omega⟩, ⟨by omega⟩, ⟨by rw [Int.toNat_natCast]; exact HLN2.out⟩, ⟨by rw [Int.toNat_natCast]; have := LM.out; simp; omega⟩, ⟨Kd.R_mono HO7b.out (fun _ hk => hk.2)⟩, ⟨HO13b.out⟩, ⟨HBb.out⟩⟩
        · have : p = l.length := by omega
          subst this
          have hres := Aside0.mk (show out = lns r l.length l by rw [HLN.out]; simp [lns])
          clear hpk hlt HLN HOL HP0
          go_wp2
          go_ret
          exact ⟨_, rfl, by rw [← hres.out]; exact Kd.R_mono HO13.out (fun _ _ => trivial), HB.out⟩
    | succ i =>
      obtain rfl : x8 = (i : Int) := by have := HX8.out; omega
      clear HX8
      have hi : i < l.length := by have := HKQ.out; omega
      have hx6 := HBA.out.1
      have hx7 := HTA.out.1
      obtain ⟨g6, c6, e6, gb6, gl6, cl6, HG6⟩ := Kd.R_form HO6.out (by omega)
      obtain ⟨g7, c7, e7, gb7, gl7, cl7, HG7⟩ := Kd.R_form HO7.out (by omega)
      subst e6 e7
      have GB6 := Aside0.mk gb6
      have GB7 := Aside0.mk gb7
      clear gb6 gl6 HG6 gb7 gl7 HG7
      have HL6 := Aside0.mk hx6
      have HL7 := Aside0.mk hx7
      have HI := Aside0.mk hi
      have p1 : ((i : Int) < (x6.length : Int)) = True := eq_true (by omega)
      obtain ⟨hc6, hf6⟩ := Kd.R_celln 0 HO6.out (i : Int) (by omega) (by omega)
      rw [Int.toNat_natCast] at hc6 hf6
      have HP := Aside0.mk (Kd.R_putg HO6.out (i : Int) 4611686018427387904)
      clear hx6 hx7
      go_wp2_with (first | ((with_reducible refine gate_store (t := 3) (p := 30) rfl ?_); refine store_event (t := 3) (p := 30) (v := ?vq1) (w1 := (wr.setCell ⟨g6, i, none⟩ (.int .i64 4611686018427387904))) ?hg ?ho ?hn ?hr ?_; (case ho => rfl); (case hg => rfl); (case hn => rfl); (case hr => first | (go_simp; done) | (go_simp; rfl)); intro w3 hw; have HPW := Aside0.mk (show Kd.R (Kd.int .i64) 3 w3 w.heap.size (fun k_ => some k_ ≠ (.slice (some ⟨g7, 0, none⟩) x7.length c7 : Value).ownBlock) (.slice (some ⟨g6, 0, none⟩) x6.length c6) (x6.set i 4611686018427387904) from by (rw [hw]; have := HP.out.1; rwa [Int.toNat_natCast] at this)); have HQ := Aside0.mk (Kd.R_after (v := (.slice (some ⟨g6, 0, none⟩) x6.length c6)) (v1 := (.slice (some ⟨g6, 0, none⟩) x6.length c6)) (ok := (fun _ => True)) (Kd.R_mono HO7.out (fun _ hk => ⟨trivial, hk⟩)) (show wr.grownBy w3 (some g6) from by (rw [hw]; have := HP.out.2; rwa [Int.toNat_natCast] at this)) (.inl rfl)); have HBb := Aside0.mk (show Below w.heap.size w w3 from by (rw [hw]; exact below_set HB.out GB6.out)); clear HO6 HO7 HB; clear hw HP; have HO6 := HPW; have HO7 := HQ; have HB := HBb; clear HPW HQ HBb))
      have hda := drop_at l i hi
      have htab : tab r (l.drop i) = go r (-1) 1 (l.drop i) (tab r (l.drop (i + 1))) (4611686018427387904, 0) :: tab r (l.drop (i + 1)) := by
        conv => lhs; rw [hda]
        rw [hda]; rfl
      have HG := Aside0.mk (show (bst r (l.drop i), tk r (l.drop i)) = go r (-1) 1 (l.drop i) (tab r (l.drop (i + 1))) (4611686018427387904, 0) by unfold bst tk; rw [htab]; rfl)
      clear hda htab hc6 hf6 p1
      go_loopg [9, 10] (l.length + 1 - i) (fun kq v9 v10 w' => ∃ (y6 y7 : List Int) (s kk : Int), v9 = .int .i64 s ∧ v10 = .int .i64 kk ∧ Aside0 (1 ≤ kk) ∧ Aside0 (s = wid (l.drop i) (kk.toNat - 1)) ∧ Aside0 ((i : Int) + kk = (l.length : Int) + 2 - (kq : Int) ∧ 1 ≤ kq) ∧ Aside0 (y6.length = x6.length) ∧ Aside0 (y7.length = x7.length) ∧ Aside0 (BestArr l r y6 (i + 1)) ∧ Aside0 (y7.length = l.length ∧ (∀ j, i + 1 ≤ j → j < l.length → y7.getD j 0 = tk r (l.drop j)) ∧ ∀ j, j < i → y7.getD j 0 = 0) ∧ Aside0 ((bst r (l.drop i), tk r (l.drop i)) = go r s kk (l.drop (i + (kk.toNat - 1))) (tab r (l.drop (i + kk.toNat))) (y6.getD i 0, y7.getD i 0)) ∧ Aside0 (Kd.R (Kd.int .i64) 3 w' w.heap.size (fun k_ => some k_ ≠ (.slice (some ⟨g7, 0, none⟩) x7.length c7 : Value).ownBlock) (.slice (some ⟨g6, 0, none⟩) x6.length c6) y6) ∧ Aside0 (Kd.R (Kd.int .i64) 3 w' w.heap.size (fun k_ => some k_ ≠ (.slice (some ⟨g6, 0, none⟩) x6.length c6 : Value).ownBlock) (.slice (some ⟨g7, 0, none⟩) x7.length c7) y7) ∧ Aside0 (Below w.heap.size w w'))
      case atStart =>
        have hx6 := HL6.out
        have hx7 := HL7.out
        refine ⟨x6.set i 4611686018427387904, x7, -1, 1, rfl, rfl, ⟨by omega⟩, ⟨?_⟩, ⟨by have := HI.out; omega, by have := HI.out; omega⟩, ⟨by simp⟩, ⟨rfl⟩, ⟨?_⟩, ⟨?_⟩, ⟨?_⟩, ⟨HO6.out⟩, ⟨Kd.R_mono HO7.out (fun _ hk => hk.2)⟩, ⟨HB.out⟩⟩
        · show -1 = wid (l.drop i) 0
          cases l.drop i <;> rfl
        · refine ⟨by simp [HBA.out.1], fun j hj hj2 => ?_⟩
          rw [FPlain.getD_set_ne _ _ _ _ (by omega)]; exact HBA.out.2 j hj hj2
        · exact ⟨HTA.out.1, HTA.out.2.1, fun j hj => HTA.out.2.2 j (by omega)⟩
        · rw [FPlain.getD_set_eq _ _ _ (by omega), HTA.out.2.2 i (by omega)]; exact HG.out
      case round =>
        clear HO6 HO7 HB HG HBA HTA
        obtain ⟨y6, y7, s, kk, rfl, rfl, HK1, HS, HKQ2, HY6, HY7, HBA, HTA, HG, HO6, HO7, HB⟩ := hrel
        obtain ⟨k, rfl⟩ := Int.eq_ofNat_of_zero_le (show 0 ≤ kk by have := HK1.out; omega)
        rw [Int.toNat_natCast] at HS HG
        have hk1 : 1 ≤ k := by have := HK1.out; omega
        have hb := wid_bd (HL.out.drop i) (k - 1) (by simp; have := HKQ2.out; omega)
        rw [← HS.out] at hb
        by_cases hik : i + k ≤ l.length
        · have hgd := HL.out.at (i := i + (k - 1)) (by omega)
          have hkq := HKQ2.out
          obtain ⟨ad, ea, hx0⟩ := Kd.at_int HR0.out ((i : Int) + k - 1) (by omega) (by omega)
          cases ea
          replace hx0 := (HB.out.cell (World.block_lt_of_cell? w _ hx0)).trans hx0
          have e1 : ((i : Int) + k - 1) = ((i + (k - 1) : Nat) : Int) := by omega
          rw [e1, rd_nat, Int.toNat_natCast, show i + (k - 1) = i + k - 1 by omega] at hx0
          rw [show i + (k - 1) = i + k - 1 by omega] at hgd
          have ews : s + (l.getD (i + k - 1) 0 + 1) = wid (l.drop i) k := by
            have := wid_succ (l.drop i) (k - 1) (by simp; omega)
            have e : k - 1 + 1 = k := by omega
            rw [e] at this
            have hg2 : (l.drop i).getD (k - 1) 0 = l.getD (i + k - 1) 0 := by
              rw [List.getD_eq_getElem?_getD, List.getElem?_drop, ← List.getD_eq_getElem?_getD]; congr 1; omega
            rw [this, hg2, HS.out]
          have hdd : l.drop (i + (k - 1)) = l.getD (i + k - 1) 0 :: l.drop (i + k) := by
            have := drop_at l (i + (k - 1)) (by omega)
            rw [show i + (k - 1) + 1 = i + k by omega, show i + (k - 1) = i + k - 1 by omega] at this
            rw [← this, show i + (k - 1) = i + k - 1 by omega]
          have HDD := Aside0.mk hdd
          have HEW := Aside0.mk ews
          clear ews hdd e1 hkq
          generalize hwv : l.getD (i + k - 1) 0 = wv at hx0 hgd HDD HEW
          clear hwv
          have p3 : ((i : Int) + k - 1 < (l.length : Int)) = True := eq_true (by omega)
          have hik' : (i : Int) + k ≤ l.length := by omega
          obtain ⟨hc6, hf6⟩ := Kd.R_celln 0 HO6.out (i : Int) (by omega) (by have := HI.out; have := HL6.out; omega)
          obtain ⟨hc7, hf7⟩ := Kd.R_celln 0 HO7.out (i : Int) (by omega) (by have := HI.out; have := HL7.out; omega)
          obtain ⟨hc8, hf8⟩ := Kd.R_celln 0 HO6.out ((i + k : Nat) : Int) (by omega) (by have := HI.out; have := HL6.out; omega)
          have ebst : rdOf 0 y6 ((i + k : Nat) : Int) = bst r (l.drop (i + k)) := by unfold rdOf; rw [Int.toNat_natCast]; exact HBA.out.2 _ (by omega) hik
          rw [ebst] at hc8
          clear ebst
          obtain ⟨a6, ha6⟩ : ∃ a6 : Int, a6 = y6.getD i 0 := ⟨_, rfl⟩
          obtain ⟨a7, ha7⟩ : ∃ a7 : Int, a7 = y7.getD i 0 := ⟨_, rfl⟩
          have ey6 : rdOf 0 y6 (i : Int) = a6 := by unfold rdOf; rw [Int.toNat_natCast, ha6]
          rw [ey6] at hc6
          clear ey6
          rw [Int.toNat_natCast] at hc6 hf6 hc7 hf7 hc8 hf8
          have hbb := bounds r h0 hr _ (l.drop (i + k)) rfl (by simp; omega) (HL.out.drop (i + k)).one
          have hbc : (l.drop (i + k)).length ≤ 1000 := by simp; omega
          have hbn := hbb.2
          have hb0 := hbb.1
          have hbm : bst r (l.drop (i + k)) ≤ 361201000 := by omega
          clear hbb hbc hbn
          generalize hbv : bst r (l.drop (i + k)) = bv at hc8 hb0 hbm
          have HBV := Aside0.mk hbv
          clear hbv
          have HGO := HG.out
          rw [HDD.out, ← ha6, ← ha7] at HGO
          unfold go at HGO
          have HGO' := Aside0.mk HGO
          clear HGO
          have HA6 := Aside0.mk ha6
          have HA7 := Aside0.mk ha7
          clear ha6 ha7
          have p5 : ((i : Int) < (x6.length : Int)) = True := eq_true (by have := HI.out; have := HL6.out; omega)
          have p6 : ((i : Int) < (x7.length : Int)) = True := eq_true (by have := HI.out; have := HL7.out; omega)
          have p7 : ((i : Int) + k < (x6.length : Int)) = True := eq_true (by have := HL6.out; omega)
          by_cases hs : r < s + (wv + 1)
          · by_cases hk2 : (1 : Int) < k
            · go_wp2
              go_roundg i
              case measure => omega
              case rel =>
                have hg := HGO'.out
                rw [if_pos ⟨hs, hk2⟩, HA6.out, HA7.out] at hg
                have ha := arr_end HI.out HBA.out HTA.out hg
                exact ⟨y6, y7, (i : Int) - 1, by go_num, ⟨rfl⟩, ⟨by omega⟩, ⟨ha.1⟩, ⟨ha.2⟩, ⟨HO6.out⟩, ⟨HO7.out⟩, ⟨HB.out⟩⟩
            · by_cases hlast : (i : Int) + k < l.length
              · by_cases hle : bv ≤ a6
                · have HM := Aside0.mk (round_more (cost := 0) hk1 hik HGO'.out (by omega) (by rw [if_neg (by omega)]) HBV.out)
                  rw [if_pos (show 0 + bv ≤ a6 by omega), Int.zero_add] at HM
                  go_wp2_with (first | ((with_reducible refine gate_store (t := 3) (p := 90) rfl ?_); refine store_event (t := 3) (p := 90) (v := ?vq2) (w1 := (wr.setCell ⟨g6, i, none⟩ (.int .i64 (bv)))) ?hg ?ho ?hn ?hr ?_; (case ho => rfl); (case hg => rfl); (case hn => rfl); (case hr => first | (go_simp; done) | (go_simp; rfl)); intro w3 hw; have HP := Kd.R_putg HO6.out (i : Int) (bv); rw [Int.toNat_natCast] at HP; have HPW := Aside0.mk (show Kd.R (Kd.int .i64) 3 w3 w.heap.size (fun k_ => some k_ ≠ (.slice (some ⟨g7, 0, none⟩) x7.length c7 : Value).ownBlock) (.slice (some ⟨g6, 0, none⟩) x6.length c6) (y6.set i (bv)) from by (rw [hw]; exact HP.1)); have HQ := Aside0.mk (Kd.R_after (v := (.slice (some ⟨g6, 0, none⟩) x6.length c6)) (v1 := (.slice (some ⟨g6, 0, none⟩) x6.length c6)) (ok := (fun _ => True)) (Kd.R_mono HO7.out (fun _ hk => ⟨trivial, hk⟩)) (show wr.grownBy w3 (some g6) from by (rw [hw]; exact HP.2)) (.inl rfl)); have HBb := Aside0.mk (show Below w.heap.size w w3 from by (rw [hw]; exact below_set HB.out GB6.out)); clear HO6 HO7 HB hw HP; have HO6 := HPW; have HO7 := HQ; have HB := HBb; clear HPW HQ HBb; clear hc6 hf6 hc7 hf7 hc8 hf8 hx0; obtain ⟨hc7, hf7⟩ := Kd.R_celln 0 HO7.out (i : Int) (by omega) (by have := HI.out; have := HL7.out; omega); rw [Int.toNat_natCast] at hc7 hf7) | ((with_reducible refine gate_store (t := 3) (p := 91) rfl ?_); refine store_event (t := 3) (p := 91) (v := ?vq3) (w1 := (w3.setCell ⟨g7, i, none⟩ (.int .i64 (k : Int)))) ?hg ?ho ?hn ?hr ?_; (case ho => rfl); (case hg => rfl); (case hn => rfl); (case hr => first | (go_simp; done) | (go_simp; rfl)); intro w4 hw; have HP := Kd.R_putg HO7.out (i : Int) (k : Int); rw [Int.toNat_natCast] at HP; have HPW := Aside0.mk (show Kd.R (Kd.int .i64) 3 w4 w.heap.size (fun k_ => True ∧ some k_ ≠ (.slice (some ⟨g6, 0, none⟩) x6.length c6 : Value).ownBlock) (.slice (some ⟨g7, 0, none⟩) x7.length c7) (y7.set i (k : Int)) from by (rw [hw]; exact HP.1)); have HQ := Aside0.mk (Kd.R_after (v := (.slice (some ⟨g7, 0, none⟩) x7.length c7)) (v1 := (.slice (some ⟨g7, 0, none⟩) x7.length c7)) (ok := (fun _ => True)) (Kd.R_mono HO6.out (fun _ hk => ⟨trivial, hk⟩)) (show w3.grownBy w4 (some g7) from by (rw [hw]; exact HP.2)) (.inl rfl)); have HBb := Aside0.mk (show Below w.heap.size w w4 from by (rw [hw]; exact below_set HB.out GB7.out)); clear HO6 HO7 HB hw HP hc7 hf7; have HO6 := HQ; have HO7 := HPW; have HB := HBb; clear HPW HQ HBb))
                  go_roundg (l.length + 1 - (i + k))
                  case measure => have := HKQ2.out; omega
                  case rel =>
                    have hB := HBA.out
                    have hT := HTA.out
                    have hy6 : i < y6.length := by have := HBA.out.1; omega
                    have hy7 : i < y7.length := by have := HTA.out.1; omega
                    refine ⟨y6.set i (bv), y7.set i (k : Int), s + (wv + 1), (k : Int) + 1, by go_num, by go_num, ⟨by omega⟩, ⟨?_⟩, ⟨by omega, by omega⟩, ⟨by rw [List.length_set]; exact HY6.out⟩, ⟨by rw [List.length_set]; exact HY7.out⟩, ⟨?_⟩, ⟨?_⟩, ⟨?_⟩, ⟨Kd.R_mono HO6.out (fun _ hk => hk.2)⟩, ⟨Kd.R_mono HO7.out (fun _ hk => hk.2)⟩, ⟨HB.out⟩⟩
                    · rw [HEW.out]; congr 1
                    · exact ⟨by rw [List.length_set]; exact hB.1, fun j hj hj2 => by rw [FPlain.getD_set_ne _ _ _ _ (by omega)]; exact hB.2 j hj hj2⟩
                    · exact ⟨by rw [List.length_set]; exact hT.1, fun j hj hj2 => by rw [FPlain.getD_set_ne _ _ _ _ (by omega)]; exact hT.2.1 j hj hj2, fun j hj => by rw [FPlain.getD_set_ne _ _ _ _ (by omega)]; exact hT.2.2 j hj⟩
                    · rw [FPlain.getD_set_eq _ _ _ hy6, FPlain.getD_set_eq _ _ _ hy7]; exact HM.out
                · have HM := Aside0.mk (round_more (cost := 0) hk1 hik HGO'.out (by omega) (by rw [if_neg (by omega)]) HBV.out)
                  rw [if_neg (show ¬ 0 + bv ≤ a6 by omega)] at HM
                  clear hf6 hf7 hf8
                  go_wp2
                  go_roundg (l.length + 1 - (i + k))
                  case measure => have := HKQ2.out; omega
                  case rel =>
                    exact ⟨y6, y7, s + (wv + 1), (k : Int) + 1, by go_num, by go_num, ⟨by omega⟩, ⟨by rw [HEW.out]; congr 1⟩, ⟨by omega, by omega⟩, ⟨HY6.out⟩, ⟨HY7.out⟩, ⟨HBA.out⟩, ⟨HTA.out⟩, ⟨by rw [← HA6.out, ← HA7.out]; exact HM.out⟩, ⟨HO6.out⟩, ⟨HO7.out⟩, ⟨HB.out⟩⟩
              · by_cases hle : bv ≤ a6
                · have HM := Aside0.mk (round_more (cost := 0) hk1 hik HGO'.out (by omega) (by rw [if_neg (by omega)]) HBV.out)
                  rw [if_pos (show 0 + bv ≤ a6 by omega), Int.zero_add] at HM
                  go_wp2_with (first | ((with_reducible refine gate_store (t := 3) (p := 90) rfl ?_); refine store_event (t := 3) (p := 90) (v := ?vq4) (w1 := (wr.setCell ⟨g6, i, none⟩ (.int .i64 (bv)))) ?hg ?ho ?hn ?hr ?_; (case ho => rfl); (case hg => rfl); (case hn => rfl); (case hr => first | (go_simp; done) | (go_simp; rfl)); intro w3 hw; have HP := Kd.R_putg HO6.out (i : Int) (bv); rw [Int.toNat_natCast] at HP; have HPW := Aside0.mk (show Kd.R (Kd.int .i64) 3 w3 w.heap.size (fun k_ => some k_ ≠ (.slice (some ⟨g7, 0, none⟩) x7.length c7 : Value).ownBlock) (.slice (some ⟨g6, 0, none⟩) x6.length c6) (y6.set i (bv)) from by (rw [hw]; exact HP.1)); have HQ := Aside0.mk (Kd.R_after (v := (.slice (some ⟨g6, 0, none⟩) x6.length c6)) (v1 := (.slice (some ⟨g6, 0, none⟩) x6.length c6)) (ok := (fun _ => True)) (Kd.R_mono HO7.out (fun _ hk => ⟨trivial, hk⟩)) (show wr.grownBy w3 (some g6) from by (rw [hw]; exact HP.2)) (.inl rfl)); have HBb := Aside0.mk (show Below w.heap.size w w3 from by (rw [hw]; exact below_set HB.out GB6.out)); clear HO6 HO7 HB hw HP; have HO6 := HPW; have HO7 := HQ; have HB := HBb; clear HPW HQ HBb; clear hc6 hf6 hc7 hf7 hc8 hf8 hx0; obtain ⟨hc7, hf7⟩ := Kd.R_celln 0 HO7.out (i : Int) (by omega) (by have := HI.out; have := HL7.out; omega); rw [Int.toNat_natCast] at hc7 hf7) | ((with_reducible refine gate_store (t := 3) (p := 91) rfl ?_); refine store_event (t := 3) (p := 91) (v := ?vq5) (w1 := (w3.setCell ⟨g7, i, none⟩ (.int .i64 (k : Int)))) ?hg ?ho ?hn ?hr ?_; (case ho => rfl); (case hg => rfl); (case hn => rfl); (case hr => first | (go_simp; done) | (go_simp; rfl)); intro w4 hw; have HP := Kd.R_putg HO7.out (i : Int) (k : Int); rw [Int.toNat_natCast] at HP; have HPW := Aside0.mk (show Kd.R (Kd.int .i64) 3 w4 w.heap.size (fun k_ => True ∧ some k_ ≠ (.slice (some ⟨g6, 0, none⟩) x6.length c6 : Value).ownBlock) (.slice (some ⟨g7, 0, none⟩) x7.length c7) (y7.set i (k : Int)) from by (rw [hw]; exact HP.1)); have HQ := Aside0.mk (Kd.R_after (v := (.slice (some ⟨g7, 0, none⟩) x7.length c7)) (v1 := (.slice (some ⟨g7, 0, none⟩) x7.length c7)) (ok := (fun _ => True)) (Kd.R_mono HO6.out (fun _ hk => ⟨trivial, hk⟩)) (show w3.grownBy w4 (some g7) from by (rw [hw]; exact HP.2)) (.inl rfl)); have HBb := Aside0.mk (show Below w.heap.size w w4 from by (rw [hw]; exact below_set HB.out GB7.out)); clear HO6 HO7 HB hw HP hc7 hf7; have HO6 := HQ; have HO7 := HPW; have HB := HBb; clear HPW HQ HBb))
                  go_roundg (l.length + 1 - (i + k))
                  case measure => have := HKQ2.out; omega
                  case rel =>
                    have hB := HBA.out
                    have hT := HTA.out
                    have hy6 : i < y6.length := by have := HBA.out.1; omega
                    have hy7 : i < y7.length := by have := HTA.out.1; omega
                    refine ⟨y6.set i (bv), y7.set i (k : Int), s + (wv + 1), (k : Int) + 1, by go_num, by go_num, ⟨by omega⟩, ⟨?_⟩, ⟨by omega, by omega⟩, ⟨by rw [List.length_set]; exact HY6.out⟩, ⟨by rw [List.length_set]; exact HY7.out⟩, ⟨?_⟩, ⟨?_⟩, ⟨?_⟩, ⟨Kd.R_mono HO6.out (fun _ hk => hk.2)⟩, ⟨Kd.R_mono HO7.out (fun _ hk => hk.2)⟩, ⟨HB.out⟩⟩
                    · rw [HEW.out]; congr 1
                    · exact ⟨by rw [List.length_set]; exact hB.1, fun j hj hj2 => by rw [FPlain.getD_set_ne _ _ _ _ (by omega)]; exact hB.2 j hj hj2⟩
                    · exact ⟨by rw [List.length_set]; exact hT.1, fun j hj hj2 => by rw [FPlain.getD_set_ne _ _ _ _ (by omega)]; exact hT.2.1 j hj hj2, fun j hj => by rw [FPlain.getD_set_ne _ _ _ _ (by omega)]; exact hT.2.2 j hj⟩
                    · rw [FPlain.getD_set_eq _ _ _ hy6, FPlain.getD_set_eq _ _ _ hy7]; exact HM.out
                · have HM := Aside0.mk (round_more (cost := 0) hk1 hik HGO'.out (by omega) (by rw [if_neg (by omega)]) HBV.out)
                  rw [if_neg (show ¬ 0 + bv ≤ a6 by omega)] at HM
                  clear hf6 hf7 hf8
                  go_wp2
                  go_roundg (l.length + 1 - (i + k))
                  case measure => have := HKQ2.out; omega
                  case rel =>
                    exact ⟨y6, y7, s + (wv + 1), (k : Int) + 1, by go_num, by go_num, ⟨by omega⟩, ⟨by rw [HEW.out]; congr 1⟩, ⟨by omega, by omega⟩, ⟨HY6.out⟩, ⟨HY7.out⟩, ⟨HBA.out⟩, ⟨HTA.out⟩, ⟨by rw [← HA6.out, ← HA7.out]; exact HM.out⟩, ⟨HO6.out⟩, ⟨HO7.out⟩, ⟨HB.out⟩⟩
          · by_cases hlast : (i : Int) + k < l.length
            · by_cases hsl : s + (wv + 1) < r
              · obtain ⟨sq, hsq⟩ : ∃ sq : Int, sq = (r - (s + (wv + 1))) * (r - (s + (wv + 1))) := ⟨_, rfl⟩
                have hq := sq_bd (x := r - (s + (wv + 1))) (by omega) (by omega)
                have Hq : IntKind.i64.wrap ((r - (s + (wv + 1))) * (r - (s + (wv + 1)))) = sq := by rw [hsq]; exact w64 (by omega) (by omega)
                rw [← hsq] at hq
                have HSQ := Aside0.mk hsq
                clear hsq
                have hq0 := hq.1
                have hq1 := hq.2
                clear hq
                by_cases hle : sq + bv ≤ a6
                · have HM := Aside0.mk (round_more (cost := sq) hk1 hik HGO'.out (by omega) (by rw [if_pos ⟨by omega, by omega⟩, HSQ.out]) HBV.out)
                  rw [if_pos (show sq + bv ≤ a6 by omega)] at HM
                  go_wp2_with (first | ((with_reducible refine gate_store (t := 3) (p := 90) rfl ?_); refine store_event (t := 3) (p := 90) (v := ?vq6) (w1 := (wr.setCell ⟨g6, i, none⟩ (.int .i64 (sq + bv)))) ?hg ?ho ?hn ?hr ?_; (case ho => rfl); (case hg => rfl); (case hn => rfl); (case hr => first | (go_simp; done) | (go_simp; rfl)); intro w3 hw; have HP := Kd.R_putg HO6.out (i : Int) (sq + bv); rw [Int.toNat_natCast] at HP; have HPW := Aside0.mk (show Kd.R (Kd.int .i64) 3 w3 w.heap.size (fun k_ => some k_ ≠ (.slice (some ⟨g7, 0, none⟩) x7.length c7 : Value).ownBlock) (.slice (some ⟨g6, 0, none⟩) x6.length c6) (y6.set i (sq + bv)) from by (rw [hw]; exact HP.1)); have HQ := Aside0.mk (Kd.R_after (v := (.slice (some ⟨g6, 0, none⟩) x6.length c6)) (v1 := (.slice (some ⟨g6, 0, none⟩) x6.length c6)) (ok := (fun _ => True)) (Kd.R_mono HO7.out (fun _ hk => ⟨trivial, hk⟩)) (show wr.grownBy w3 (some g6) from by (rw [hw]; exact HP.2)) (.inl rfl)); have HBb := Aside0.mk (show Below w.heap.size w w3 from by (rw [hw]; exact below_set HB.out GB6.out)); clear HO6 HO7 HB hw HP; have HO6 := HPW; have HO7 := HQ; have HB := HBb; clear HPW HQ HBb; clear hc6 hf6 hc7 hf7 hc8 hf8 hx0; obtain ⟨hc7, hf7⟩ := Kd.R_celln 0 HO7.out (i : Int) (by omega) (by have := HI.out; have := HL7.out; omega); rw [Int.toNat_natCast] at hc7 hf7) | ((with_reducible refine gate_store (t := 3) (p := 91) rfl ?_); refine store_event (t := 3) (p := 91) (v := ?vq7) (w1 := (w3.setCell ⟨g7, i, none⟩ (.int .i64 (k : Int)))) ?hg ?ho ?hn ?hr ?_; (case ho => rfl); (case hg => rfl); (case hn => rfl); (case hr => first | (go_simp; done) | (go_simp; rfl)); intro w4 hw; have HP := Kd.R_putg HO7.out (i : Int) (k : Int); rw [Int.toNat_natCast] at HP; have HPW := Aside0.mk (show Kd.R (Kd.int .i64) 3 w4 w.heap.size (fun k_ => True ∧ some k_ ≠ (.slice (some ⟨g6, 0, none⟩) x6.length c6 : Value).ownBlock) (.slice (some ⟨g7, 0, none⟩) x7.length c7) (y7.set i (k : Int)) from by (rw [hw]; exact HP.1)); have HQ := Aside0.mk (Kd.R_after (v := (.slice (some ⟨g7, 0, none⟩) x7.length c7)) (v1 := (.slice (some ⟨g7, 0, none⟩) x7.length c7)) (ok := (fun _ => True)) (Kd.R_mono HO6.out (fun _ hk => ⟨trivial, hk⟩)) (show w3.grownBy w4 (some g7) from by (rw [hw]; exact HP.2)) (.inl rfl)); have HBb := Aside0.mk (show Below w.heap.size w w4 from by (rw [hw]; exact below_set HB.out GB7.out)); clear HO6 HO7 HB hw HP hc7 hf7; have HO6 := HQ; have HO7 := HPW; have HB := HBb; clear HPW HQ HBb))
                  go_roundg (l.length + 1 - (i + k))
                  case measure => have := HKQ2.out; omega
                  case rel =>
                    have hB := HBA.out
                    have hT := HTA.out
                    have hy6 : i < y6.length := by have := HBA.out.1; omega
                    have hy7 : i < y7.length := by have := HTA.out.1; omega
                    refine ⟨y6.set i (sq + bv), y7.set i (k : Int), s + (wv + 1), (k : Int) + 1, by go_num, by go_num, ⟨by omega⟩, ⟨?_⟩, ⟨by omega, by omega⟩, ⟨by rw [List.length_set]; exact HY6.out⟩, ⟨by rw [List.length_set]; exact HY7.out⟩, ⟨?_⟩, ⟨?_⟩, ⟨?_⟩, ⟨Kd.R_mono HO6.out (fun _ hk => hk.2)⟩, ⟨Kd.R_mono HO7.out (fun _ hk => hk.2)⟩, ⟨HB.out⟩⟩
                    · rw [HEW.out]; congr 1
                    · exact ⟨by rw [List.length_set]; exact hB.1, fun j hj hj2 => by rw [FPlain.getD_set_ne _ _ _ _ (by omega)]; exact hB.2 j hj hj2⟩
                    · exact ⟨by rw [List.length_set]; exact hT.1, fun j hj hj2 => by rw [FPlain.getD_set_ne _ _ _ _ (by omega)]; exact hT.2.1 j hj hj2, fun j hj => by rw [FPlain.getD_set_ne _ _ _ _ (by omega)]; exact hT.2.2 j hj⟩
                    · rw [FPlain.getD_set_eq _ _ _ hy6, FPlain.getD_set_eq _ _ _ hy7]; exact HM.out
                · have HM := Aside0.mk (round_more (cost := sq) hk1 hik HGO'.out (by omega) (by rw [if_pos ⟨by omega, by omega⟩, HSQ.out]) HBV.out)
                  rw [if_neg (show ¬ sq + bv ≤ a6 by omega)] at HM
                  clear hf6 hf7 hf8
                  go_wp2
                  go_roundg (l.length + 1 - (i + k))
                  case measure => have := HKQ2.out; omega
                  case rel =>
                    exact ⟨y6, y7, s + (wv + 1), (k : Int) + 1, by go_num, by go_num, ⟨by omega⟩, ⟨by rw [HEW.out]; congr 1⟩, ⟨by omega, by omega⟩, ⟨HY6.out⟩, ⟨HY7.out⟩, ⟨HBA.out⟩, ⟨HTA.out⟩, ⟨by rw [← HA6.out, ← HA7.out]; exact HM.out⟩, ⟨HO6.out⟩, ⟨HO7.out⟩, ⟨HB.out⟩⟩
              · by_cases hle : bv ≤ a6
                · have HM := Aside0.mk (round_more (cost := 0) hk1 hik HGO'.out (by omega) (by rw [if_neg (by omega)]) HBV.out)
                  rw [if_pos (show 0 + bv ≤ a6 by omega), Int.zero_add] at HM
                  go_wp2_with (first | ((with_reducible refine gate_store (t := 3) (p := 90) rfl ?_); refine store_event (t := 3) (p := 90) (v := ?vq8) (w1 := (wr.setCell ⟨g6, i, none⟩ (.int .i64 (bv)))) ?hg ?ho ?hn ?hr ?_; (case ho => rfl); (case hg => rfl); (case hn => rfl); (case hr => first | (go_simp; done) | (go_simp; rfl)); intro w3 hw; have HP := Kd.R_putg HO6.out (i : Int) (bv); rw [Int.toNat_natCast] at HP; have HPW := Aside0.mk (show Kd.R (Kd.int .i64) 3 w3 w.heap.size (fun k_ => some k_ ≠ (.slice (some ⟨g7, 0, none⟩) x7.length c7 : Value).ownBlock) (.slice (some ⟨g6, 0, none⟩) x6.length c6) (y6.set i (bv)) from by (rw [hw]; exact HP.1)); have HQ := Aside0.mk (Kd.R_after (v := (.slice (some ⟨g6, 0, none⟩) x6.length c6)) (v1 := (.slice (some ⟨g6, 0, none⟩) x6.length c6)) (ok := (fun _ => True)) (Kd.R_mono HO7.out (fun _ hk => ⟨trivial, hk⟩)) (show wr.grownBy w3 (some g6) from by (rw [hw]; exact HP.2)) (.inl rfl)); have HBb := Aside0.mk (show Below w.heap.size w w3 from by (rw [hw]; exact below_set HB.out GB6.out)); clear HO6 HO7 HB hw HP; have HO6 := HPW; have HO7 := HQ; have HB := HBb; clear HPW HQ HBb; clear hc6 hf6 hc7 hf7 hc8 hf8 hx0; obtain ⟨hc7, hf7⟩ := Kd.R_celln 0 HO7.out (i : Int) (by omega) (by have := HI.out; have := HL7.out; omega); rw [Int.toNat_natCast] at hc7 hf7) | ((with_reducible refine gate_store (t := 3) (p := 91) rfl ?_); refine store_event (t := 3) (p := 91) (v := ?vq9) (w1 := (w3.setCell ⟨g7, i, none⟩ (.int .i64 (k : Int)))) ?hg ?ho ?hn ?hr ?_; (case ho => rfl); (case hg => rfl); (case hn => rfl); (case hr => first | (go_simp; done) | (go_simp; rfl)); intro w4 hw; have HP := Kd.R_putg HO7.out (i : Int) (k : Int); rw [Int.toNat_natCast] at HP; have HPW := Aside0.mk (show Kd.R (Kd.int .i64) 3 w4 w.heap.size (fun k_ => True ∧ some k_ ≠ (.slice (some ⟨g6, 0, none⟩) x6.length c6 : Value).ownBlock) (.slice (some ⟨g7, 0, none⟩) x7.length c7) (y7.set i (k : Int)) from by (rw [hw]; exact HP.1)); have HQ := Aside0.mk (Kd.R_after (v := (.slice (some ⟨g7, 0, none⟩) x7.length c7)) (v1 := (.slice (some ⟨g7, 0, none⟩) x7.length c7)) (ok := (fun _ => True)) (Kd.R_mono HO6.out (fun _ hk => ⟨trivial, hk⟩)) (show w3.grownBy w4 (some g7) from by (rw [hw]; exact HP.2)) (.inl rfl)); have HBb := Aside0.mk (show Below w.heap.size w w4 from by (rw [hw]; exact below_set HB.out GB7.out)); clear HO6 HO7 HB hw HP hc7 hf7; have HO6 := HQ; have HO7 := HPW; have HB := HBb; clear HPW HQ HBb))
                  go_roundg (l.length + 1 - (i + k))
                  case measure => have := HKQ2.out; omega
                  case rel =>
                    have hB := HBA.out
                    have hT := HTA.out
                    have hy6 : i < y6.length := by have := HBA.out.1; omega
                    have hy7 : i < y7.length := by have := HTA.out.1; omega
                    refine ⟨y6.set i (bv), y7.set i (k : Int), s + (wv + 1), (k : Int) + 1, by go_num, by go_num, ⟨by omega⟩, ⟨?_⟩, ⟨by omega, by omega⟩, ⟨by rw [List.length_set]; exact HY6.out⟩, ⟨by rw [List.length_set]; exact HY7.out⟩, ⟨?_⟩, ⟨?_⟩, ⟨?_⟩, ⟨Kd.R_mono HO6.out (fun _ hk => hk.2)⟩, ⟨Kd.R_mono HO7.out (fun _ hk => hk.2)⟩, ⟨HB.out⟩⟩
                    · rw [HEW.out]; congr 1
                    · exact ⟨by rw [List.length_set]; exact hB.1, fun j hj hj2 => by rw [FPlain.getD_set_ne _ _ _ _ (by omega)]; exact hB.2 j hj hj2⟩
                    · exact ⟨by rw [List.length_set]; exact hT.1, fun j hj hj2 => by rw [FPlain.getD_set_ne _ _ _ _ (by omega)]; exact hT.2.1 j hj hj2, fun j hj => by rw [FPlain.getD_set_ne _ _ _ _ (by omega)]; exact hT.2.2 j hj⟩
                    · rw [FPlain.getD_set_eq _ _ _ hy6, FPlain.getD_set_eq _ _ _ hy7]; exact HM.out
                · have HM := Aside0.mk (round_more (cost := 0) hk1 hik HGO'.out (by omega) (by rw [if_neg (by omega)]) HBV.out)
                  rw [if_neg (show ¬ 0 + bv ≤ a6 by omega)] at HM
                  clear hf6 hf7 hf8
                  go_wp2
                  go_roundg (l.length + 1 - (i + k))
                  case measure => have := HKQ2.out; omega
                  case rel =>
                    exact ⟨y6, y7, s + (wv + 1), (k : Int) + 1, by go_num, by go_num, ⟨by omega⟩, ⟨by rw [HEW.out]; congr 1⟩, ⟨by omega, by omega⟩, ⟨HY6.out⟩, ⟨HY7.out⟩, ⟨HBA.out⟩, ⟨HTA.out⟩, ⟨by rw [← HA6.out, ← HA7.out]; exact HM.out⟩, ⟨HO6.out⟩, ⟨HO7.out⟩, ⟨HB.out⟩⟩
            · by_cases hle : bv ≤ a6
              · have HM := Aside0.mk (round_more (cost := 0) hk1 hik HGO'.out (by omega) (by rw [if_neg (by omega)]) HBV.out)
                rw [if_pos (show 0 + bv ≤ a6 by omega), Int.zero_add] at HM
                go_wp2_with (first | ((with_reducible refine gate_store (t := 3) (p := 90) rfl ?_); refine store_event (t := 3) (p := 90) (v := ?vq10) (w1 := (wr.setCell ⟨g6, i, none⟩ (.int .i64 (bv)))) ?hg ?ho ?hn ?hr ?_; (case ho => rfl); (case hg => rfl); (case hn => rfl); (case hr => first | (go_simp; done) | (go_simp; rfl)); intro w3 hw; have HP := Kd.R_putg HO6.out (i : Int) (bv); rw [Int.toNat_natCast] at HP; have HPW := Aside0.mk (show Kd.R (Kd.int .i64) 3 w3 w.heap.size (fun k_ => some k_ ≠ (.slice (some ⟨g7, 0, none⟩) x7.length c7 : Value).ownBlock) (.slice (some ⟨g6, 0, none⟩) x6.length c6) (y6.set i (bv)) from by (rw [hw]; exact HP.1)); have HQ := Aside0.mk (Kd.R_after (v := (.slice (some ⟨g6, 0, none⟩) x6.length c6)) (v1 := (.slice (some ⟨g6, 0, none⟩) x6.length c6)) (ok := (fun _ => True)) (Kd.R_mono HO7.out (fun _ hk => ⟨trivial, hk⟩)) (show wr.grownBy w3 (some g6) from by (rw [hw]; exact HP.2)) (.inl rfl)); have HBb := Aside0.mk (show Below w.heap.size w w3 from by (rw [hw]; exact below_set HB.out GB6.out)); clear HO6 HO7 HB hw HP; have HO6 := HPW; have HO7 := HQ; have HB := HBb; clear HPW HQ HBb; clear hc6 hf6 hc7 hf7 hc8 hf8 hx0; obtain ⟨hc7, hf7⟩ := Kd.R_celln 0 HO7.out (i : Int) (by omega) (by have := HI.out; have := HL7.out; omega); rw [Int.toNat_natCast] at hc7 hf7) | ((with_reducible refine gate_store (t := 3) (p := 91) rfl ?_); refine store_event (t := 3) (p := 91) (v := ?vq11) (w1 := (w3.setCell ⟨g7, i, none⟩ (.int .i64 (k : Int)))) ?hg ?ho ?hn ?hr ?_; (case ho => rfl); (case hg => rfl); (case hn => rfl); (case hr => first | (go_simp; done) | (go_simp; rfl)); intro w4 hw; have HP := Kd.R_putg HO7.out (i : Int) (k : Int); rw [Int.toNat_natCast] at HP; have HPW := Aside0.mk (show Kd.R (Kd.int .i64) 3 w4 w.heap.size (fun k_ => True ∧ some k_ ≠ (.slice (some ⟨g6, 0, none⟩) x6.length c6 : Value).ownBlock) (.slice (some ⟨g7, 0, none⟩) x7.length c7) (y7.set i (k : Int)) from by (rw [hw]; exact HP.1)); have HQ := Aside0.mk (Kd.R_after (v := (.slice (some ⟨g7, 0, none⟩) x7.length c7)) (v1 := (.slice (some ⟨g7, 0, none⟩) x7.length c7)) (ok := (fun _ => True)) (Kd.R_mono HO6.out (fun _ hk => ⟨trivial, hk⟩)) (show w3.grownBy w4 (some g7) from by (rw [hw]; exact HP.2)) (.inl rfl)); have HBb := Aside0.mk (show Below w.heap.size w w4 from by (rw [hw]; exact below_set HB.out GB7.out)); clear HO6 HO7 HB hw HP hc7 hf7; have HO6 := HQ; have HO7 := HPW; have HB := HBb; clear HPW HQ HBb))
                go_roundg (l.length + 1 - (i + k))
                case measure => have := HKQ2.out; omega
                case rel =>
                  have hB := HBA.out
                  have hT := HTA.out
                  have hy6 : i < y6.length := by have := HBA.out.1; omega
                  have hy7 : i < y7.length := by have := HTA.out.1; omega
                  refine ⟨y6.set i (bv), y7.set i (k : Int), s + (wv + 1), (k : Int) + 1, by go_num, by go_num, ⟨by omega⟩, ⟨?_⟩, ⟨by omega, by omega⟩, ⟨by rw [List.length_set]; exact HY6.out⟩, ⟨by rw [List.length_set]; exact HY7.out⟩, ⟨?_⟩, ⟨?_⟩, ⟨?_⟩, ⟨Kd.R_mono HO6.out (fun _ hk => hk.2)⟩, ⟨Kd.R_mono HO7.out (fun _ hk => hk.2)⟩, ⟨HB.out⟩⟩
                  · rw [HEW.out]; congr 1
                  · exact ⟨by rw [List.length_set]; exact hB.1, fun j hj hj2 => by rw [FPlain.getD_set_ne _ _ _ _ (by omega)]; exact hB.2 j hj hj2⟩
                  · exact ⟨by rw [List.length_set]; exact hT.1, fun j hj hj2 => by rw [FPlain.getD_set_ne _ _ _ _ (by omega)]; exact hT.2.1 j hj hj2, fun j hj => by rw [FPlain.getD_set_ne _ _ _ _ (by omega)]; exact hT.2.2 j hj⟩
                  · rw [FPlain.getD_set_eq _ _ _ hy6, FPlain.getD_set_eq _ _ _ hy7]; exact HM.out
              · have HM := Aside0.mk (round_more (cost := 0) hk1 hik HGO'.out (by omega) (by rw [if_neg (by omega)]) HBV.out)
                rw [if_neg (show ¬ 0 + bv ≤ a6 by omega)] at HM
                clear hf6 hf7 hf8
                go_wp2
                go_roundg (l.length + 1 - (i + k))
                case measure => have := HKQ2.out; omega
                case rel =>
                  exact ⟨y6, y7, s + (wv + 1), (k : Int) + 1, by go_num, by go_num, ⟨by omega⟩, ⟨by rw [HEW.out]; congr 1⟩, ⟨by omega, by omega⟩, ⟨HY6.out⟩, ⟨HY7.out⟩, ⟨HBA.out⟩, ⟨HTA.out⟩, ⟨by rw [← HA6.out, ← HA7.out]; exact HM.out⟩, ⟨HO6.out⟩, ⟨HO7.out⟩, ⟨HB.out⟩⟩
        · have hkq := HKQ2.out
          have hg := HG.out
          rw [List.drop_of_length_le (show l.length ≤ i + (k - 1) by omega)] at hg
          simp only [go] at hg
          have ha := Aside0.mk (arr_end HI.out HBA.out HTA.out hg)
          have hkb : i + k ≤ 1001 := by omega
          have hnik : decide ((i : Int) + k ≤ (l.length : Int)) = false := decide_eq_false (by omega)
          clear hg hkq hik
          go_wp2
          go_roundg i
          case measure => omega
          case rel =>
            exact ⟨y6, y7, (i : Int) - 1, by go_num, ⟨rfl⟩, ⟨by have := HI.out; omega⟩, ⟨ha.out.1⟩, ⟨ha.out.2⟩, ⟨HO6.out⟩, ⟨HO7.out⟩, ⟨HB.out⟩⟩
end Go.Proofs.Ytkdhfbdecmfhcaa.FLines
