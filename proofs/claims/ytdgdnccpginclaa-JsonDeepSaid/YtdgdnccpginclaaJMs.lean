/- Proved: the reference's machine of layer 8 in memory: begin; its lists are short. -/
import Derived.Test.YtdgdnccpginclaaJMr
import Derived.Deep.CutRange
namespace Go.Proofs.Ytdgdnccpginclaa.JMs
open Go.RowKit Go.Proofs.YtdgdnccpginclaaW.PrintWords Go.Proofs.YtdgdnccpginclaaW.PrintLast Go.Proofs.YtdgdnccpginclaaW.PrintMore
open Go.Proofs.Ytdgdnccpginclaa.JDefs Go.Proofs.Ytdgdnccpginclaa.JBase Go.Proofs.Ytdgdnccpginclaa.JMem Go.Proofs.Ytdgdnccpginclaa.JMr
set_option linter.unusedVariables false
set_option linter.unusedSimpArgs false
set_option maxHeartbeats 8000000
set_option maxRecDepth 100000

set_option maxHeartbeats 16000000 in
theorem begin_calls (W w : World) (g : Nat) (m : Mach) (c i : Int) (h : Mt W w g m) (hl : m.l.length ≤ 999999) (hsl : m.stack.length ≤ 100000) (hc0 : 0 ≤ c) (hc1 : c ≤ 255) :
    Calls Try.prog 31 #[.pointer (some ⟨g, 0, none⟩), .int .u8 c, .int .i64 i] w fun e w' => e = .returned (.int .i64 (mbegin m c i).2) ∧ Mt W w' g (mbegin m c i).1 := by
  obtain ⟨R, hR⟩ : ∃ R, R = mbegin m c i := ⟨_, rfl⟩
  rw [← hR]
  have hF := h.1.setFrm i
  have hFb : Below W.heap.size W (w.setCell ⟨g, 2, none⟩ (.int .i64 i)) := below_set h.2 h.1.1
  obtain ⟨st, stk, frm, nm, left, cnt, l⟩ := m
  unfold mbegin at hR
  simp only at hR hl hsl hF
  have HR := Aside0.mk hR
  have HL := Aside0.mk hl
  have HSL := Aside0.mk hsl
  have HG := Aside0.mk h.1.1
  have HGL := Aside0.mk (show g < w.heap.size by obtain ⟨_, _, _, hb, _⟩ := h.1; exact blk_lt hb)
  have f2 := h.1.fz 2
  have c2 : w.cell? ⟨g, 2, none⟩ = some (.int .i64 frm) := h.1.c2
  have HSZ2 := Aside0.mk (show (w.setCell ⟨g, 2, none⟩ (.int .i64 i)).heap.size = w.heap.size by simp)
  have HFF := Aside0.mk (And.intro hF hFb)
  have hd := digit_calls
  clear hR hl
  by_cases q1 : c = 123 ∨ c = 91
  · have hor : (c == 123) = true ∨ (c == 123) = false ∧ (c == 91) = true := by
      by_cases h1 : c = 123
      · exact .inl (beq_iff_eq.2 h1)
      · exact .inr ⟨beq_eq_false_iff_ne.2 h1, beq_iff_eq.2 (by omega)⟩
    obtain ⟨hg_, sv, lv, hbw, _⟩ := h.1
    simp only at hbw
    have c1w : w.cell? ⟨g, 1, none⟩ = some sv := blk_cell hbw 1
    obtain ⟨hg, sv', v, hblk, hst, ho⟩ := hF
    have hse : sv' = sv := by
      have e1 := blk_cell hblk 1
      have e2 := blk_cell (blk_put hbw 2 (.int .i64 i) rfl) 1
      rw [e1] at e2
      simpa using e2
    subst hse
    obtain ⟨A, cS, es, hles, hCs⟩ := Kd.R_reads hst
    simp only at es
    subst es
    have HGS := Aside0.mk (blk_lt hblk)
    have HBLK := Aside0.mk hblk
    have HO := Aside0.mk ho
    have HS := Aside0.mk (Kd.R_types hst hblk (bytT 43))
    have HB2 := Aside0.mk hFb
    clear hblk hst ho hbw hles hCs hFb hg_ hg
    by_cases h512 : stk.length = 512
    · have HQ := Aside0.mk (show R = (⟨st, stk, i, nm, left, cnt, l⟩, 6) by rw [HR.out, if_pos q1, if_pos h512])
      have e512 : ((stk.length : Int) == 512) = true := beq_iff_eq.2 (by omega)
      clear HR q1 h512 hsl
      rcases hor with t1 | ⟨t1, t2⟩
      all_goals
        clear h
        go_enter Try.func31, Try.ntmps31
        go_wp2_with fail
        go_ret
        exact ⟨by rw [HQ.out]; rfl, by rw [HQ.out]; exact HFF.out⟩
    · have e512 : ((stk.length : Int) == 512) = false := beq_eq_false_iff_ne.2 (by omega)
      have HQ := Aside0.mk (show R = (if c = 123 then ⟨2, stk ++ [c], i, nm, left, cnt, l ++ [(1, i, 1)]⟩ else ⟨1, stk ++ [c], i, nm, left, cnt, l ++ [(1, i, 1)]⟩, 0) by rw [HR.out, if_pos q1, if_neg h512]; rfl)
      clear HR h512 hsl
      have fin : ∀ w4 A4 c4, Aside0 ((Kd.int .u8).R 5 w4 W.heap.size (fun k_ => True ∧ k_ ≠ g) (.slice A4 (stk ++ [c]).length c4) (stk ++ [c])) → Aside0 (Kd.R tokK 33 w4 W.heap.size (fun _ => True) v l) → Aside0 (Below W.heap.size W w4) → Aside0 (w4.heap[g]? = some (.cells #[.int .u8 st, .slice A stk.length cS, .int .i64 i, .bool nm, .string (strOfNums left), .int .i64 cnt, v] 43 (0, 0))) →
          Mt W (w4.setCell ⟨g, 1, none⟩ (.slice A4 (stk.length + 1) c4)) g ⟨st, stk ++ [c], i, nm, left, cnt, l⟩ := by
        intro w4 A4 c4 h1 h2 h3 h4
        have hs := Kd.R_mono (Kd.R_set h1.out h4.out (bytT 43) 1 (.slice A4 (stk.length + 1) c4)) (ok' := fun _ => True) (fun _ _ => trivial)
        rw [List.length_append] at hs
        exact ⟨⟨HG.out, _, _, blk_put h4.out 1 _ rfl, hs, Kd.R_set h2.out h4.out (tokT 43) 1 _⟩, below_set h3.out HG.out⟩
      have FIN := Aside0.mk fin
      clear fin q1
      rcases hor with t1 | ⟨t1, t2⟩
      · have HQ2 := Aside0.mk (show R = (⟨2, stk ++ [c], i, nm, left, cnt, l ++ [(1, i, 1)]⟩, 0) by rw [HQ.out, if_pos (beq_iff_eq.1 t1)])
        clear h
        go_enter Try.func31, Try.ntmps31
        go_wp2_with (first | ((with_reducible refine gate_builtin (b := .append) (xs := #[.tmp 28, .tmp 30]) rfl ?_); at_builtin; refine Kd.R_append (Kd.int .u8) (w0 := W) W.heap.size rfl (.tmp 28) (.tmp 30) 22 5 (.int .u8 0) 1 rfl Try.underlying22 info5 rfl (by decide) (by omega) (.slice A stk.length cS) stk c [.int .u8 c] (fun k_ => True ∧ k_ ≠ g) (fun _ => False) rfl (by rw [HSZ2.out]; rfl) rfl (fun _ hk => hk.elim) (fun k_ hk => ⟨trivial, by have := HGS.out; omega⟩) HS.out HB2.out (below_size HB2.out) (by have := HSL.out; omega) ?_; intro v4 w4 ho hb hgr hat; have hblk4 := blk_grown HBLK.out hgr (fun e_ => (HS.out.1 g e_.symm).2 rfl); have hl4 := Kd.R_over' HO.out (Kd.R_typed HS.out) tokT5 hgr; obtain ⟨A4, c4, e4_, hle4_, hC4_⟩ := Kd.R_reads ho; subst e4_; clear hle4_ hC4_; have hc41 : w4.cell? ⟨g, 1, none⟩ = some (.slice A stk.length cS) := blk_cell hblk4 1; have hf41 := blk_frozen hblk4 1; have HBLK4 := Aside0.mk hblk4; have HO4 := Aside0.mk hl4; have HB4 := Aside0.mk hb; have HS4 := Aside0.mk ho; clear hblk4 ho hb hgr hat hl4) | fail)
        refine (one_calls W _ g ⟨st, stk ++ [c], i, nm, left, cnt, l⟩ 1 i 1 (FIN.out _ _ _ HS4 HO4 HB4 HBLK4) (by have := HL.out; simp only; omega)).mono ?_
        rintro e w6 ⟨rfl, hm⟩
        have HM := Aside0.mk hm
        have c0 := hm.1.c0
        have f0 := hm.1.fz 0
        clear hm
        go_wp2_with fail
        go_ret
        exact ⟨by rw [HQ2.out]; rfl, by rw [HQ2.out]; exact ⟨HM.out.1.setSt 2, below_set HM.out.2 HG.out⟩⟩
      · have HQ2 := Aside0.mk (show R = (⟨1, stk ++ [c], i, nm, left, cnt, l ++ [(1, i, 1)]⟩, 0) by rw [HQ.out, if_neg (beq_eq_false_iff_ne.1 t1)])
        clear h
        go_enter Try.func31, Try.ntmps31
        go_wp2_with (first | ((with_reducible refine gate_builtin (b := .append) (xs := #[.tmp 28, .tmp 30]) rfl ?_); at_builtin; refine Kd.R_append (Kd.int .u8) (w0 := W) W.heap.size rfl (.tmp 28) (.tmp 30) 22 5 (.int .u8 0) 1 rfl Try.underlying22 info5 rfl (by decide) (by omega) (.slice A stk.length cS) stk c [.int .u8 c] (fun k_ => True ∧ k_ ≠ g) (fun _ => False) rfl (by rw [HSZ2.out]; rfl) rfl (fun _ hk => hk.elim) (fun k_ hk => ⟨trivial, by have := HGS.out; omega⟩) HS.out HB2.out (below_size HB2.out) (by have := HSL.out; omega) ?_; intro v4 w4 ho hb hgr hat; have hblk4 := blk_grown HBLK.out hgr (fun e_ => (HS.out.1 g e_.symm).2 rfl); have hl4 := Kd.R_over' HO.out (Kd.R_typed HS.out) tokT5 hgr; obtain ⟨A4, c4, e4_, hle4_, hC4_⟩ := Kd.R_reads ho; subst e4_; clear hle4_ hC4_; have hc41 : w4.cell? ⟨g, 1, none⟩ = some (.slice A stk.length cS) := blk_cell hblk4 1; have hf41 := blk_frozen hblk4 1; have HBLK4 := Aside0.mk hblk4; have HO4 := Aside0.mk hl4; have HB4 := Aside0.mk hb; have HS4 := Aside0.mk ho; clear hblk4 ho hb hgr hat hl4) | fail)
        refine (one_calls W _ g ⟨st, stk ++ [c], i, nm, left, cnt, l⟩ 1 i 1 (FIN.out _ _ _ HS4 HO4 HB4 HBLK4) (by have := HL.out; simp only; omega)).mono ?_
        rintro e w6 ⟨rfl, hm⟩
        have HM := Aside0.mk hm
        clear hm
        go_wp2_with fail
        go_ret
        exact ⟨by rw [HQ2.out]; rfl, by rw [HQ2.out]; exact HM.out⟩
  · have t1 : (c == 123) = false := beq_eq_false_iff_ne.2 (by omega)
    have t2 : (c == 91) = false := beq_eq_false_iff_ne.2 (by omega)
    have hr := HR.out
    rw [if_neg q1] at hr
    have c0 : w.cell? ⟨g, 0, none⟩ = some (.int .u8 st) := h.1.c0
    have c4 : w.cell? ⟨g, 4, none⟩ = some (.string (strOfNums left)) := h.1.c4
    have HD := Aside0.mk hd
    have f0w := h.1.fz 0
    have f4w := h.1.fz 4
    clear h HR q1 hd hF hFb hsl
    by_cases h34 : c = 34
    · rw [if_pos h34] at hr
      have t3 : (c == 34) = true := beq_iff_eq.2 h34
      clear h34
      have HQ := Aside0.mk hr
      clear hr
      go_enter Try.func31, Try.ntmps31
      go_wp2_with (first | (go_at_call 39; refine (HD.out _ c).mono ?_; rintro e w_ ⟨rfl, rfl⟩))
      go_ret
      exact ⟨by rw [HQ.out]; rfl, by rw [HQ.out]; exact ⟨HFF.out.1.setSt 6, below_set HFF.out.2 HG.out⟩⟩
    · rw [if_neg h34] at hr
      have t3 : (c == 34) = false := beq_eq_false_iff_ne.2 h34
      by_cases h45 : c = 45
      · rw [if_pos h45] at hr
        have t4 : (c == 45) = true := beq_iff_eq.2 h45
        clear h45
        have HQ := Aside0.mk hr
        clear hr
        go_enter Try.func31, Try.ntmps31
        go_wp2_with (first | (go_at_call 39; refine (HD.out _ c).mono ?_; rintro e w_ ⟨rfl, rfl⟩))
        go_ret
        exact ⟨by rw [HQ.out]; rfl, by rw [HQ.out]; exact ⟨HFF.out.1.setSt 9, below_set HFF.out.2 HG.out⟩⟩
      · rw [if_neg h45] at hr
        have t4 : (c == 45) = false := beq_eq_false_iff_ne.2 h45
        by_cases h48 : c = 48
        · rw [if_pos h48] at hr
          have t5 : (c == 48) = true := beq_iff_eq.2 h48
          clear h48
          have HQ := Aside0.mk hr
          clear hr
          go_enter Try.func31, Try.ntmps31
          go_wp2_with (first | (go_at_call 39; refine (HD.out _ c).mono ?_; rintro e w_ ⟨rfl, rfl⟩))
          go_ret
          exact ⟨by rw [HQ.out]; rfl, by rw [HQ.out]; exact ⟨HFF.out.1.setSt 10, below_set HFF.out.2 HG.out⟩⟩
        · rw [if_neg h48] at hr
          have t5 : (c == 48) = false := beq_eq_false_iff_ne.2 h48
          by_cases hdg : dig c = true
          · rw [if_pos hdg] at hr
            have HQ := Aside0.mk hr
            clear hr
            go_enter Try.func31, Try.ntmps31
            go_wp2_with (first | (go_at_call 39; refine (HD.out _ c).mono ?_; rintro e w_ ⟨rfl, rfl⟩))
            go_ret
            exact ⟨by rw [HQ.out]; rfl, by rw [HQ.out]; exact ⟨HFF.out.1.setSt 11, below_set HFF.out.2 HG.out⟩⟩
          · rw [if_neg hdg] at hr
            have hdg' : dig c = false := by simpa using hdg
            by_cases h116 : c = 116
            · rw [if_pos h116] at hr
              have z4 : (c == 116) = true := beq_iff_eq.2 h116
              clear h116
              have HQ := Aside0.mk hr
              clear hr
              go_enter Try.func31, Try.ntmps31
              go_wp2_with (first | (go_at_call 39; refine (HD.out _ c).mono ?_; rintro e w_ ⟨rfl, rfl⟩))
              go_ret
              exact ⟨by rw [HQ.out]; rfl, by rw [HQ.out]; exact ⟨(HFF.out.1.setSt 17).setLeft [114, 117, 101] _ (by decide +kernel), below_set (below_set HFF.out.2 HG.out) HG.out⟩⟩
            · rw [if_neg h116] at hr
              have z4 : (c == 116) = false := beq_eq_false_iff_ne.2 h116
              by_cases h102 : c = 102
              · rw [if_pos h102] at hr
                have z5 : (c == 102) = true := beq_iff_eq.2 h102
                clear h102
                have HQ := Aside0.mk hr
                clear hr
                go_enter Try.func31, Try.ntmps31
                go_wp2_with (first | (go_at_call 39; refine (HD.out _ c).mono ?_; rintro e w_ ⟨rfl, rfl⟩))
                go_ret
                exact ⟨by rw [HQ.out]; rfl, by rw [HQ.out]; exact ⟨(HFF.out.1.setSt 17).setLeft [97, 108, 115, 101] _ (by decide +kernel), below_set (below_set HFF.out.2 HG.out) HG.out⟩⟩
              · rw [if_neg h102] at hr
                have z5 : (c == 102) = false := beq_eq_false_iff_ne.2 h102
                by_cases h110 : c = 110
                · rw [if_pos h110] at hr
                  have z6 : (c == 110) = true := beq_iff_eq.2 h110
                  clear h110
                  have HQ := Aside0.mk hr
                  clear hr
                  go_enter Try.func31, Try.ntmps31
                  go_wp2_with (first | (go_at_call 39; refine (HD.out _ c).mono ?_; rintro e w_ ⟨rfl, rfl⟩))
                  go_ret
                  exact ⟨by rw [HQ.out]; rfl, by rw [HQ.out]; exact ⟨(HFF.out.1.setSt 17).setLeft [117, 108, 108] _ (by decide +kernel), below_set (below_set HFF.out.2 HG.out) HG.out⟩⟩
                · rw [if_neg h110] at hr
                  have z6 : (c == 110) = false := beq_eq_false_iff_ne.2 h110
                  have HQ := Aside0.mk hr
                  clear hr
                  go_enter Try.func31, Try.ntmps31
                  go_wp2_with (first | (go_at_call 39; refine (HD.out _ c).mono ?_; rintro e w_ ⟨rfl, rfl⟩))
                  go_ret
                  exact ⟨by rw [HQ.out]; rfl, by rw [HQ.out]; exact HFF.out⟩
end Go.Proofs.Ytdgdnccpginclaa.JMs
