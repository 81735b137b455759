/- Proved: the reference's machine of layer 8 in memory: number and next; its lists are short. -/
import Derived.Test.YtdgdnccpginclaaJMem
import Derived.Deep.CutRange
namespace Go.Proofs.Ytdgdnccpginclaa.JMn
open Go.RowKit Go.Proofs.YtdgdnccpginclaaW.PrintWords Go.Proofs.YtdgdnccpginclaaW.PrintLast Go.Proofs.YtdgdnccpginclaaW.PrintMore
open Go.Proofs.Ytdgdnccpginclaa.JDefs Go.Proofs.Ytdgdnccpginclaa.JBase Go.Proofs.Ytdgdnccpginclaa.JMem
set_option linter.unusedVariables false
set_option linter.unusedSimpArgs false
set_option maxHeartbeats 8000000
set_option maxRecDepth 100000

set_option maxHeartbeats 16000000 in
theorem number_calls (w : World) (s c : Int) : Calls Try.prog 29 #[.int .u8 s, .int .u8 c] w fun e w' => e = .returned (.tuple #[.int .u8 (num s c).1, .bool (num s c).2]) ∧ w = w' := by
  obtain ⟨R, hR⟩ : ∃ R, R = num s c := ⟨_, rfl⟩
  rw [← hR]
  unfold num at hR
  have HD := Aside0.mk digit_calls
  by_cases s9 : s = 9
  · subst s9
    rw [if_pos rfl] at hR
    by_cases h48 : c = 48
    · rw [if_pos h48] at hR
      have e0 : (c == 48) = true := beq_iff_eq.2 h48
      clear h48
      have HQ := Aside0.mk hR
      clear hR
      go_enter Try.func29, Try.ntmps29
      go_wp2_with (first | (go_at_call 39; refine (HD.out _ c).mono ?_; rintro e w_ ⟨rfl, rfl⟩))
      go_ret2
      exact ⟨by rw [HQ.out]; rfl, rfl⟩
    · rw [if_neg h48] at hR
      have e0 : (c == 48) = false := beq_eq_false_iff_ne.2 h48
      clear h48
      have HQ := Aside0.mk hR
      clear hR
      go_enter Try.func29, Try.ntmps29
      go_wp2_with (first | (go_at_call 39; refine (HD.out _ c).mono ?_; rintro e w_ ⟨rfl, rfl⟩))
      go_ret2
      exact ⟨by rw [HQ.out]; rfl, rfl⟩
  · rw [if_neg s9] at hR
    have t9 : (s == 9) = false := beq_eq_false_iff_ne.2 s9
    by_cases s10 : s = 10 ∨ s = 11
    · rw [if_pos s10] at hR
      have hor : s = 10 ∨ s = 11 := s10
      clear s10
      by_cases h46 : c = 46
      · rw [if_pos h46] at hR
        have e0 : (c == 46) = true := beq_iff_eq.2 h46
        clear h46
        rcases hor with rfl | rfl
        all_goals
          have HQ := Aside0.mk hR
          clear hR
          go_enter Try.func29, Try.ntmps29
          go_wp2_with (first | (go_at_call 39; refine (HD.out _ c).mono ?_; rintro e w_ ⟨rfl, rfl⟩))
          go_ret2
          exact ⟨by rw [HQ.out]; rfl, rfl⟩
      · rw [if_neg h46] at hR
        have e0 : (c == 46) = false := beq_eq_false_iff_ne.2 h46
        clear h46
        rcases hor with rfl | rfl
        all_goals
          by_cases hp : c = 101 ∨ c = 69
          · rw [if_pos hp] at hR
            have hor : (c == 101) = true ∨ (c == 101) = false ∧ (c == 69) = true := by
              by_cases h1 : c = 101
              · exact .inl (beq_iff_eq.2 h1)
              · exact .inr ⟨beq_eq_false_iff_ne.2 h1, beq_iff_eq.2 (by omega)⟩
            clear hp
            rcases hor with e1 | ⟨e1, e2⟩
            all_goals
              have HQ := Aside0.mk hR
              clear hR
              go_enter Try.func29, Try.ntmps29
              go_wp2_with (first | (go_at_call 39; refine (HD.out _ c).mono ?_; rintro e w_ ⟨rfl, rfl⟩))
              go_ret2
              exact ⟨by rw [HQ.out]; rfl, rfl⟩
          · rw [if_neg hp] at hR
            have e1 : (c == 101) = false := beq_eq_false_iff_ne.2 (by omega)
            have e2 : (c == 69) = false := beq_eq_false_iff_ne.2 (by omega)
            have HQ := Aside0.mk hR
            clear hR
            go_enter Try.func29, Try.ntmps29
            go_wp2_with (first | (go_at_call 39; refine (HD.out _ c).mono ?_; rintro e w_ ⟨rfl, rfl⟩))
            go_ret2
            exact ⟨by rw [HQ.out]; rfl, rfl⟩
    · rw [if_neg s10] at hR
      have t10 : (s == 10) = false := beq_eq_false_iff_ne.2 (by omega)
      have t11 : (s == 11) = false := beq_eq_false_iff_ne.2 (by omega)
      by_cases s12 : s = 12
      · subst s12
        rw [if_pos rfl] at hR
        have HQ := Aside0.mk hR
        clear hR
        go_enter Try.func29, Try.ntmps29
        go_wp2_with (first | (go_at_call 39; refine (HD.out _ c).mono ?_; rintro e w_ ⟨rfl, rfl⟩))
        go_ret2
        exact ⟨by rw [HQ.out]; rfl, rfl⟩
      · rw [if_neg s12] at hR
        have t12 : (s == 12) = false := beq_eq_false_iff_ne.2 s12
        by_cases s13 : s = 13
        · subst s13
          rw [if_pos rfl] at hR
          by_cases hp : c = 101 ∨ c = 69
          · rw [if_pos hp] at hR
            have hor : (c == 101) = true ∨ (c == 101) = false ∧ (c == 69) = true := by
              by_cases h1 : c = 101
              · exact .inl (beq_iff_eq.2 h1)
              · exact .inr ⟨beq_eq_false_iff_ne.2 h1, beq_iff_eq.2 (by omega)⟩
            clear hp
            rcases hor with e1 | ⟨e1, e2⟩
            all_goals
              have HQ := Aside0.mk hR
              clear hR
              go_enter Try.func29, Try.ntmps29
              go_wp2_with (first | (go_at_call 39; refine (HD.out _ c).mono ?_; rintro e w_ ⟨rfl, rfl⟩))
              go_ret2
              exact ⟨by rw [HQ.out]; rfl, rfl⟩
          · rw [if_neg hp] at hR
            have e1 : (c == 101) = false := beq_eq_false_iff_ne.2 (by omega)
            have e2 : (c == 69) = false := beq_eq_false_iff_ne.2 (by omega)
            have HQ := Aside0.mk hR
            clear hR
            go_enter Try.func29, Try.ntmps29
            go_wp2_with (first | (go_at_call 39; refine (HD.out _ c).mono ?_; rintro e w_ ⟨rfl, rfl⟩))
            go_ret2
            exact ⟨by rw [HQ.out]; rfl, rfl⟩
        · rw [if_neg s13] at hR
          have t13 : (s == 13) = false := beq_eq_false_iff_ne.2 s13
          by_cases s14 : s = 14
          · subst s14
            rw [if_pos rfl] at hR
            by_cases hp : c = 43 ∨ c = 45
            · rw [if_pos hp] at hR
              have hor : (c == 43) = true ∨ (c == 43) = false ∧ (c == 45) = true := by
                by_cases h1 : c = 43
                · exact .inl (beq_iff_eq.2 h1)
                · exact .inr ⟨beq_eq_false_iff_ne.2 h1, beq_iff_eq.2 (by omega)⟩
              clear hp
              rcases hor with e1 | ⟨e1, e2⟩
              all_goals
                have HQ := Aside0.mk hR
                clear hR
                go_enter Try.func29, Try.ntmps29
                go_wp2_with (first | (go_at_call 39; refine (HD.out _ c).mono ?_; rintro e w_ ⟨rfl, rfl⟩))
                go_ret2
                exact ⟨by rw [HQ.out]; rfl, rfl⟩
            · rw [if_neg hp] at hR
              have e1 : (c == 43) = false := beq_eq_false_iff_ne.2 (by omega)
              have e2 : (c == 45) = false := beq_eq_false_iff_ne.2 (by omega)
              have HQ := Aside0.mk hR
              clear hR
              go_enter Try.func29, Try.ntmps29
              go_wp2_with (first | (go_at_call 39; refine (HD.out _ c).mono ?_; rintro e w_ ⟨rfl, rfl⟩))
              go_ret2
              exact ⟨by rw [HQ.out]; rfl, rfl⟩
          · rw [if_neg s14] at hR
            have t14 : (s == 14) = false := beq_eq_false_iff_ne.2 s14
            by_cases s15 : s = 15 ∨ s = 16
            · rw [if_pos s15] at hR
              rcases s15 with rfl | rfl
              all_goals
                have HQ := Aside0.mk hR
                clear hR
                go_enter Try.func29, Try.ntmps29
                go_wp2_with (first | (go_at_call 39; refine (HD.out _ c).mono ?_; rintro e w_ ⟨rfl, rfl⟩))
                go_ret2
                exact ⟨by rw [HQ.out]; rfl, rfl⟩
            · rw [if_neg s15] at hR
              have t15 : (s == 15) = false := beq_eq_false_iff_ne.2 (by omega)
              have t16 : (s == 16) = false := beq_eq_false_iff_ne.2 (by omega)
              have HQ := Aside0.mk hR
              clear hR
              go_enter Try.func29, Try.ntmps29
              go_wp2_with (first | (go_at_call 39; refine (HD.out _ c).mono ?_; rintro e w_ ⟨rfl, rfl⟩))
              go_ret2
              exact ⟨by rw [HQ.out]; rfl, rfl⟩

set_option maxHeartbeats 16000000 in
theorem next_calls (W w : World) (g : Nat) (m : Mach) (c i : Int) (h : Mt W w g m) (hl : m.l.length ≤ 999999) (hsl : m.stack.length ≤ 100000) (hc0 : 0 ≤ c) (hc1 : c ≤ 255) :
    Calls Try.prog 32 #[.pointer (some ⟨g, 0, none⟩), .int .u8 c, .int .i64 i] w fun e w' => e = .returned (.int .i64 (mnext m c i).2) ∧ Mt W w' g (mnext m c i).1 := by
  obtain ⟨R, hR⟩ : ∃ R, R = mnext m c i := ⟨_, rfl⟩
  rw [← hR]
  obtain ⟨st, stk, frm, nm, left, cnt, l⟩ := m
  unfold mnext at hR
  simp only at hR hl hsl
  have HL := Aside0.mk hl
  have HM := Aside0.mk h
  have HG := Aside0.mk h.1.1
  obtain ⟨⟨hg, sv, v, hblk, hst, ho⟩, hb⟩ := h
  simp only at hblk hst ho
  rcases List.eq_nil_or_concat stk with hnil | ⟨S, t, hcat⟩
  · subst hnil
    simp only [List.getLast?_nil] at hR
    have HQ := Aside0.mk hR
    have c1 : w.cell? ⟨g, 1, none⟩ = some sv := blk_cell hblk 1
    obtain ⟨A, cS, es, hles, hCs⟩ := Kd.R_reads hst
    subst es
    simp only [List.length_nil] at c1
    clear hR hg hblk hst ho hb hles hCs
    go_enter Try.func32, Try.ntmps32
    go_wp2_with fail
    go_ret
    exact ⟨by rw [HQ.out]; rfl, by rw [HQ.out]; exact HM.out⟩
  · rw [List.concat_eq_append] at hcat
    subst hcat
    simp only [List.getLast?_append, List.getLast?_singleton, Option.some_or, List.dropLast_concat] at hR
    obtain ⟨g1, cS, es, gb, gl, cl, hgl⟩ := Kd.R_form hst (by simp)
    subst es
    have hln : (S ++ [t]).length = S.length + 1 := by simp
    rw [hln] at hst hblk
    have c1 : w.cell? ⟨g, 1, none⟩ = some (.slice (some ⟨g1, 0, none⟩) (S.length + 1) cS) := blk_cell hblk 1
    obtain ⟨k1, k2⟩ := Kd.R_celln 0 hst (S.length : Int) (by omega) (by omega)
    rw [Int.toNat_natCast] at k1
    have kt : rdOf 0 (S ++ [t]) (S.length : Int) = t := by unfold rdOf; simp
    rw [kt] at k1
    have hcS : S.length + 1 ≤ cS := (Kd.R_reads' hst).2.1
    have hz : ((S.length + 1 : Nat) : Int) - 1 = (S.length : Int) := by omega
    have hz2 : (S.length : Int) + 1 - 1 = (S.length : Int) := by omega
    have hs1 : (S.length : Int) ≤ 100000 := by rw [hln] at hsl; omega
    have f1 := blk_frozen hblk 1
    have HST := Aside0.mk (Kd.R_take hst (m := S.length) (by simp))
    rw [List.take_left'] at HST
    rotate_left
    · rfl
    have HPOP := Aside0.mk (show Mt W (w.setCell ⟨g, 1, none⟩ (.slice (some ⟨g1, 0, none⟩) S.length cS)) g ⟨st, S, frm, nm, left, cnt, l⟩ from ⟨⟨hg, _, _, blk_put hblk 1 _ rfl, Kd.R_set HST.out hblk (bytT 43) 1 _, Kd.R_set ho hblk (tokT 43) 1 _⟩, below_set hb hg⟩)
    have HR := Aside0.mk hR
    have hcut : ∀ W' : World, (Instr.slice 22 (.slice (some ⟨g1, 0, none⟩) (S.length + 1) cS) none (some (.int .i64 (S.length : Int))) none).run Try.prog W' = .ok (.slice (some ⟨g1, 0, none⟩) S.length cS) W' := by
      obtain ⟨i5, hi5, hz5, hs5, hb5⟩ := info_parts info5
      intro W'
      have := cut_to 22 5 .i64 Try.underlying22 hi5 (some ⟨g1, 0, none⟩) (S.length + 1) cS (S.length : Int) (by omega) (by omega) hcS W'
      rw [Int.toNat_natCast] at this
      exact this
    clear hR hg hblk hst ho hb hgl gb k2 hln kt HST hsl hcS
    by_cases ht : t = 91
    · have e0 : (t == 91) = true := beq_iff_eq.2 ht
      by_cases h44 : c = 44
      · have e1 : (c == 44) = true := beq_iff_eq.2 h44
        have HQ := Aside0.mk (show R = _ by rw [HR.out, if_pos ⟨h44, ht⟩])
        clear HR ht h44
        go_enter Try.func32, Try.ntmps32
        go_wp2_with fail
        refine (one_calls W _ g ⟨st, S ++ [t], frm, nm, left, cnt, l⟩ 3 i 0 HM.out (by have := HL.out; simp only; omega)).mono ?_
        rintro e w6 ⟨rfl, hm⟩
        have HM6 := Aside0.mk hm
        clear hm
        go_wp2_with fail
        go_ret
        exact ⟨by rw [HQ.out]; rfl, by rw [HQ.out]; exact HM6.out⟩
      · have e1 : (c == 44) = false := beq_eq_false_iff_ne.2 h44
        by_cases h93 : c = 93
        · have e2 : (c == 93) = true := beq_iff_eq.2 h93
          have HQ := Aside0.mk (show R = _ by rw [HR.out, if_neg (fun h => h44 h.1), if_neg h44, if_pos (.inl ⟨h93, ht⟩)])
          clear HR ht h44 h93
          go_enter Try.func32, Try.ntmps32
          go_wp2_with fail
          refine (one_calls W _ g ⟨st, S, frm, nm, left, cnt, l⟩ 2 i 5 HPOP.out (by have := HL.out; simp only; omega)).mono ?_
          rintro e w6 ⟨rfl, hm⟩
          have HM6 := Aside0.mk hm
          clear hm
          go_wp2_with fail
          go_ret
          exact ⟨by rw [HQ.out]; rfl, by rw [HQ.out]; exact HM6.out⟩
        · have e2 : (c == 93) = false := beq_eq_false_iff_ne.2 h93
          have HQ := Aside0.mk (show R = _ by rw [HR.out, if_neg (fun h => h44 h.1), if_neg h44, if_neg (by omega)])
          clear HR ht h44 h93
          by_cases h125 : c = 125
          · have e3 : (c == 125) = true := beq_iff_eq.2 h125
            clear h125
            go_enter Try.func32, Try.ntmps32
            go_wp2_with fail
            go_ret
            exact ⟨by rw [HQ.out]; rfl, by rw [HQ.out]; exact HM.out⟩
          · have e3 : (c == 125) = false := beq_eq_false_iff_ne.2 h125
            clear h125
            go_enter Try.func32, Try.ntmps32
            go_wp2_with fail
            go_ret
            exact ⟨by rw [HQ.out]; rfl, by rw [HQ.out]; exact HM.out⟩
    · have e0 : (t == 91) = false := beq_eq_false_iff_ne.2 ht
      by_cases h44 : c = 44
      · have e1 : (c == 44) = true := beq_iff_eq.2 h44
        have HQ := Aside0.mk (show R = _ by rw [HR.out, if_neg (fun h => ht h.2), if_pos h44])
        clear HR ht h44
        go_enter Try.func32, Try.ntmps32
        go_wp2_with fail
        refine (one_calls W _ g ⟨st, S ++ [t], frm, nm, left, cnt, l⟩ 3 i 3 HM.out (by have := HL.out; simp only; omega)).mono ?_
        rintro e w6 ⟨rfl, hm⟩
        have HM6 := Aside0.mk hm
        clear hm
        go_wp2_with fail
        go_ret
        exact ⟨by rw [HQ.out]; rfl, by rw [HQ.out]; exact HM6.out⟩
      · have e1 : (c == 44) = false := beq_eq_false_iff_ne.2 h44
        by_cases h125 : c = 125
        · have e2 : (c == 125) = true := beq_iff_eq.2 h125
          have e3 : (c == 93) = false := beq_eq_false_iff_ne.2 (by omega)
          have HQ := Aside0.mk (show R = _ by rw [HR.out, if_neg (fun h => h44 h.1), if_neg h44, if_pos (.inr ⟨h125, ht⟩)])
          clear HR ht h44 h125
          go_enter Try.func32, Try.ntmps32
          go_wp2_with fail
          refine (one_calls W _ g ⟨st, S, frm, nm, left, cnt, l⟩ 2 i 5 HPOP.out (by have := HL.out; simp only; omega)).mono ?_
          rintro e w6 ⟨rfl, hm⟩
          have HM6 := Aside0.mk hm
          clear hm
          go_wp2_with fail
          go_ret
          exact ⟨by rw [HQ.out]; rfl, by rw [HQ.out]; exact HM6.out⟩
        · have e2 : (c == 125) = false := beq_eq_false_iff_ne.2 h125
          have HQ := Aside0.mk (show R = _ by rw [HR.out, if_neg (fun h => h44 h.1), if_neg h44, if_neg (by omega)])
          clear HR ht h44 h125
          by_cases h93 : c = 93
          · have e3 : (c == 93) = true := beq_iff_eq.2 h93
            clear h93
            go_enter Try.func32, Try.ntmps32
            go_wp2_with fail
            go_ret
            exact ⟨by rw [HQ.out]; rfl, by rw [HQ.out]; exact HM.out⟩
          · have e3 : (c == 93) = false := beq_eq_false_iff_ne.2 h93
            clear h93
            go_enter Try.func32, Try.ntmps32
            go_wp2_with fail
            go_ret
            exact ⟨by rw [HQ.out]; rfl, by rw [HQ.out]; exact HM.out⟩
end Go.Proofs.Ytdgdnccpginclaa.JMn
