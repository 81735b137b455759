/- Proved: the reference's machine of layer 8 in memory: feed; its lists are short. -/
import Derived.Test.YtdgdnccpginclaaJMi
import Derived.Deep.CutRange
namespace Go.Proofs.Ytdgdnccpginclaa.JMf
open Go.RowKit Go.Proofs.YtdgdnccpginclaaW.PrintWords Go.Proofs.YtdgdnccpginclaaW.PrintLast Go.Proofs.YtdgdnccpginclaaW.PrintMore
open Go.Proofs.Ytdgdnccpginclaa.JDefs Go.Proofs.Ytdgdnccpginclaa.JBase Go.Proofs.Ytdgdnccpginclaa.JMem Go.Proofs.Ytdgdnccpginclaa.JMr Go.Proofs.Ytdgdnccpginclaa.JMs Go.Proofs.Ytdgdnccpginclaa.JMn Go.Proofs.Ytdgdnccpginclaa.JMi
set_option linter.unusedVariables false
set_option linter.unusedSimpArgs false
set_option maxHeartbeats 8000000
set_option maxRecDepth 100000

set_option maxHeartbeats 16000000 in
theorem feed_calls (W w : World) (g : Nat) (m : Mach) (c i : Int) (h : Mt W w g m) (hl : m.l.length ≤ 999998) (hsl : m.stack.length ≤ 100000) (h0 : 0 ≤ m.frm) (h1 : m.frm ≤ i) (h2 : i ≤ 900000000) (hc0 : 0 ≤ c) (hc1 : c ≤ 255)
    (hleft : m.st = 17 → m.left ≠ [] ∧ ByteL m.left) (hcnt0 : 0 ≤ m.count) (hcnt1 : m.count ≤ 4) :
    Calls Try.prog 18 #[.pointer (some ⟨g, 0, none⟩), .int .u8 c, .int .i64 i] w fun e w' => e = .returned (.int .i64 (mfeed m c i).2) ∧ Mt W w' g (mfeed m c i).1 := by
  obtain ⟨R, hR⟩ : ∃ R, R = mfeed m c i := ⟨_, rfl⟩
  rw [← hR]
  unfold mfeed at hR
  obtain ⟨r, hr⟩ : ∃ r, r = num m.st c := ⟨_, rfl⟩
  have hnc : ∀ w, Calls Try.prog 29 #[.int .u8 m.st, .int .u8 c] w fun e w' => e = .returned (.tuple #[.int .u8 r.1, .bool r.2]) ∧ w = w' := fun w => by rw [hr]; exact number_calls w m.st c
  rw [← hr] at hR
  clear hr
  obtain ⟨ns, nok⟩ := r
  simp only at hR hnc
  have HNC := Aside0.mk hnc
  have HM := Aside0.mk h
  have HG := Aside0.mk h.1.1
  have c0 := h.1.c0
  have f0 := h.1.fz 0
  clear hnc h
  cases nok
  · rw [if_neg (by decide)] at hR
    obtain ⟨m2, hm2⟩ : ∃ m2, m2 = (if endsB m.st then matom m i else m) := ⟨_, rfl⟩
    rw [← hm2] at hR
    have k1 : m2.l.length ≤ 999999 := by
      rw [hm2]
      split
      · simp [matom]; omega
      · omega
    have k2 : m2.stack.length ≤ 100000 := by
      rw [hm2]
      split
      · exact hsl
      · exact hsl
    have k3 : m2.frm = m.frm := by rw [hm2]; split <;> rfl
    have k4 : m2.st = 17 → m2.left ≠ [] ∧ ByteL m2.left := by
      rw [hm2]
      split
      · intro e_
        exfalso
        unfold matom at e_
        simp only at e_
        split at e_ <;> exact absurd e_ (by decide)
      · exact hleft
    have k5 : m2.count = m.count := by rw [hm2]; split <;> rfl
    rw [← k3] at h0 h1
    have K3 := Aside0.mk k3
    obtain ⟨b, hb⟩ : ∃ b, b = endsB m.st := ⟨_, rfl⟩
    have hec : ∀ w, Calls Try.prog 19 #[.int .u8 m.st] w fun e w' => e = .returned (.bool b) ∧ w = w' := fun w => by rw [hb]; exact ends_calls w m.st
    rw [← hb] at hm2
    have HEC := Aside0.mk hec
    clear hec hb
    rw [← k5] at hcnt0 hcnt1
    have HL := Aside0.mk k1
    have HSL := Aside0.mk k2
    have HLE := Aside0.mk k4
    have HM2 := Aside0.mk hm2
    have HL0 := Aside0.mk hl
    have HR := Aside0.mk hR
    clear k1 k2 k3 k4 k5 hm2 hl hsl hR hleft
    go_enter Try.func18, Try.ntmps18
    go_upto_if 27 with (first | (go_at_call 29; refine (HNC.out _).mono ?_; rintro e w_ ⟨rfl, rfl⟩) | (go_at_call 19; refine (HEC.out _).mono ?_; rintro e w_ ⟨rfl, rfl⟩))
    go_cut [] from 9 to 30 (fun wx => Aside0 (Mt W wx g m2))
    case first =>
      cases b
      rotate_left
      · have HE := Aside0.mk (show m2 = matom m i by rw [HM2.out, if_pos rfl])
        go_wp2_with fail
        refine (atom_calls W _ g m i HM.out (by have := HL0.out; omega) (by have := K3.out; omega) (by have := K3.out; omega) (by omega)).mono ?_
        rintro e w6 ⟨rfl, hm⟩
        rw [← HE.out] at hm
        have HM6 := Aside0.mk hm
        clear hm
        go_wp2_with fail
        go_meet
        case rel => exact HM6
      · have HE := Aside0.mk (show m2 = m by rw [HM2.out, if_neg (by decide)])
        go_wp2_with fail
        go_meet
        case rel => exact ⟨by rw [HE.out]; exact HM.out⟩
    case rest =>
    clear HM HL0 HM2 K3 HEC c0 f0 HNC
    have hR := HR.out
    have HM := hcut
    obtain ⟨st, stk, frm, nm, left, cnt, l⟩ := m2
    have c0 : wc.cell? ⟨g, 0, none⟩ = some (.int .u8 st) := HM.out.1.c0
    have c2 : wc.cell? ⟨g, 2, none⟩ = some (.int .i64 frm) := HM.out.1.c2
    have c3 : wc.cell? ⟨g, 3, none⟩ = some (.bool nm) := HM.out.1.c3
    have f0 := HM.out.1.fz 0
    have f2 := HM.out.1.fz 2
    have f3 := HM.out.1.fz 3
    clear hcut HR
    simp only at h0 h1 hcnt0 hcnt1
    unfold mrest at hR
    simp only at hR
    by_cases hA : st = 6 ∨ st = 7 ∨ st = 8 ∨ st = 17
    · rw [if_pos hA] at hR
      have HQ := Aside0.mk hR
      have HI := Aside0.mk (inside_calls W wc g ⟨st, stk, frm, nm, left, cnt, l⟩ c i HM.out HL.out h0 h1 h2 hc0 hc1 (by
        rcases hA with e_ | e_ | e_ | e_
        · exact .inl e_
        · exact .inr (.inl e_)
        · exact .inr (.inr (.inl e_))
        · exact .inr (.inr (.inr ⟨e_, HLE.out e_⟩))) hcnt0 hcnt1)
      clear hR
      rcases hA with rfl | rfl | rfl | rfl
      all_goals
        go_wp2_with fail
        refine HI.out.mono ?_
        rintro e w6 ⟨rfl, hm⟩
        have HM6 := Aside0.mk hm
        clear hm
        go_wp2_with fail
        go_ret
        exact ⟨by rw [HQ.out]; rfl, by rw [HQ.out]; exact HM6.out⟩
    rw [if_neg hA] at hR
    have a6 : (st == 6) = false := beq_eq_false_iff_ne.2 (by omega)
    have a7 : (st == 7) = false := beq_eq_false_iff_ne.2 (by omega)
    have a8 : (st == 8) = false := beq_eq_false_iff_ne.2 (by omega)
    have a17 : (st == 17) = false := beq_eq_false_iff_ne.2 (by omega)
    clear hA
    by_cases hB : st = 9 ∨ st = 12 ∨ st = 14 ∨ st = 15
    · rw [if_pos hB] at hR
      have HQ := Aside0.mk hR
      clear hR
      rcases hB with rfl | rfl | rfl | rfl
      all_goals
        clear a6 a7 a8 a17
        go_wp2_with fail
        go_ret
        exact ⟨by rw [HQ.out]; rfl, by rw [HQ.out]; exact HM.out⟩
    rw [if_neg hB] at hR
    have a9 : (st == 9) = false := beq_eq_false_iff_ne.2 (by omega)
    have a12 : (st == 12) = false := beq_eq_false_iff_ne.2 (by omega)
    have a14 : (st == 14) = false := beq_eq_false_iff_ne.2 (by omega)
    have a15 : (st == 15) = false := beq_eq_false_iff_ne.2 (by omega)
    clear hB
    by_cases hW : c = 32 ∨ c = 9 ∨ c = 10 ∨ c = 13
    · rw [if_pos hW] at hR
      have HQ := Aside0.mk hR
      clear hR
      have hor : (c == 32) = true ∨ (c == 32) = false ∧ (c == 9) = true ∨ (c == 32) = false ∧ (c == 9) = false ∧ (c == 10) = true ∨ (c == 32) = false ∧ (c == 9) = false ∧ (c == 10) = false ∧ (c == 13) = true := by
        rcases hW with rfl | rfl | rfl | rfl <;> decide
      clear hW
      rcases hor with b1 | ⟨b1, b2⟩ | ⟨b1, b2, b3⟩ | ⟨b1, b2, b3, b4⟩
      all_goals
        go_wp2_with fail
        go_ret
        exact ⟨by rw [HQ.out]; rfl, by rw [HQ.out]; exact HM.out⟩
    rw [if_neg hW] at hR
    have b1 : (c == 32) = false := beq_eq_false_iff_ne.2 (by omega)
    have b2 : (c == 9) = false := beq_eq_false_iff_ne.2 (by omega)
    have b3 : (c == 10) = false := beq_eq_false_iff_ne.2 (by omega)
    have b4 : (c == 13) = false := beq_eq_false_iff_ne.2 (by omega)
    clear hW
    by_cases s0 : st = 0
    · subst s0
      rw [if_pos rfl] at hR
      have HQ := Aside0.mk hR
      clear hR a6 a7 a8 a17 a9 a12 a14 a15
      go_wp2_with fail
      refine (begin_calls W wc g ⟨0, stk, frm, nm, left, cnt, l⟩ c i HM.out HL.out HSL.out hc0 hc1).mono ?_
      rintro e w6 ⟨rfl, hm⟩
      have HM6 := Aside0.mk hm
      clear hm
      go_wp2_with fail
      go_ret
      exact ⟨by rw [HQ.out]; rfl, by rw [HQ.out]; exact HM6.out⟩
    rw [if_neg s0] at hR
    have a0 : (st == 0) = false := beq_eq_false_iff_ne.2 s0
    by_cases s1 : st = 1
    · subst s1
      rw [if_pos rfl] at hR
      clear a6 a7 a8 a17 a9 a12 a14 a15 s0 a0
      by_cases h93 : c = 93
      · rw [if_pos h93] at hR
        have HQ := Aside0.mk hR
        have t1 : (c == 93) = true := beq_iff_eq.2 h93
        clear hR h93
        go_wp2_with fail
        refine (next_calls W wc g ⟨1, stk, frm, nm, left, cnt, l⟩ c i HM.out HL.out HSL.out hc0 hc1).mono ?_
        rintro e w6 ⟨rfl, hm⟩
        have HM6 := Aside0.mk hm
        clear hm
        go_wp2_with fail
        go_ret
        exact ⟨by rw [HQ.out]; rfl, by rw [HQ.out]; exact HM6.out⟩
      · rw [if_neg h93] at hR
        have HQ := Aside0.mk hR
        have t1 : (c == 93) = false := beq_eq_false_iff_ne.2 h93
        clear hR h93
        go_wp2_with fail
        refine (begin_calls W wc g ⟨1, stk, frm, nm, left, cnt, l⟩ c i HM.out HL.out HSL.out hc0 hc1).mono ?_
        rintro e w6 ⟨rfl, hm⟩
        have HM6 := Aside0.mk hm
        clear hm
        go_wp2_with fail
        go_ret
        exact ⟨by rw [HQ.out]; rfl, by rw [HQ.out]; exact HM6.out⟩
    rw [if_neg s1] at hR
    have a1 : (st == 1) = false := beq_eq_false_iff_ne.2 s1
    by_cases s23 : st = 2 ∨ st = 3
    · rw [if_pos s23] at hR
      clear a6 a7 a8 a17 a9 a12 a14 a15 s0 a0 s1 a1
      by_cases h125 : c = 125 ∧ st = 2
      · rw [if_pos h125] at hR
        obtain ⟨hc, rfl⟩ := h125
        have HQ := Aside0.mk hR
        have t1 : (c == 125) = true := beq_iff_eq.2 hc
        clear hR hc s23
        go_wp2_with fail
        refine (next_calls W wc g ⟨2, stk, frm, nm, left, cnt, l⟩ c i HM.out HL.out HSL.out hc0 hc1).mono ?_
        rintro e w6 ⟨rfl, hm⟩
        have HM6 := Aside0.mk hm
        clear hm
        go_wp2_with fail
        go_ret
        exact ⟨by rw [HQ.out]; rfl, by rw [HQ.out]; exact HM6.out⟩
      · rw [if_neg h125] at hR
        by_cases h34 : c = 34
        · rw [if_pos h34] at hR
          have HQ := Aside0.mk hR
          have t1 : (c == 125) = false := beq_eq_false_iff_ne.2 (by omega)
          have t2 : (c != 34) = false := by rw [h34]; rfl
          clear hR h34 h125
          rcases s23 with rfl | rfl
          all_goals
            go_wp2_with fail
            go_ret
            exact ⟨by rw [HQ.out]; rfl, by rw [HQ.out]; exact ⟨((HM.out.1.setFrm i).setSt 6).setNamed true, below_set (below_set (below_set HM.out.2 HG.out) HG.out) HG.out⟩⟩
        · rw [if_neg h34] at hR
          have HQ := Aside0.mk hR
          have t2 : (c != 34) = true := by rw [bne_iff_ne]; exact h34
          by_cases hc : c = 125
          · have t1 : (c == 125) = true := beq_iff_eq.2 hc
            obtain rfl : st = 3 := by omega
            clear hR h34 h125 s23 hc
            go_wp2_with fail
            go_ret
            exact ⟨by rw [HQ.out]; rfl, by rw [HQ.out]; exact HM.out⟩
          · have t1 : (c == 125) = false := beq_eq_false_iff_ne.2 hc
            clear hR h34 h125 hc
            rcases s23 with rfl | rfl
            all_goals
              go_wp2_with fail
              go_ret
              exact ⟨by rw [HQ.out]; rfl, by rw [HQ.out]; exact HM.out⟩
    rw [if_neg s23] at hR
    have a2 : (st == 2) = false := beq_eq_false_iff_ne.2 (by omega)
    have a3 : (st == 3) = false := beq_eq_false_iff_ne.2 (by omega)
    clear s23 s1 s0
    by_cases s4 : st = 4
    · subst s4
      rw [if_pos rfl] at hR
      clear a6 a7 a8 a17 a9 a12 a14 a15 a0 a1 a2 a3
      by_cases h58 : c = 58
      · rw [if_pos h58] at hR
        have HQ := Aside0.mk hR
        have t1 : (c != 58) = false := by rw [h58]; rfl
        clear hR h58
        go_wp2_with fail
        refine (one_calls W wc g ⟨4, stk, frm, nm, left, cnt, l⟩ 4 i 0 HM.out (by have := HL.out; simp only at this ⊢; omega)).mono ?_
        rintro e w6 ⟨rfl, hm⟩
        have HM6 := Aside0.mk hm
        clear hm
        go_wp2_with fail
        go_ret
        exact ⟨by rw [HQ.out]; rfl, by rw [HQ.out]; exact HM6.out⟩
      · rw [if_neg h58] at hR
        have HQ := Aside0.mk hR
        have t1 : (c != 58) = true := by rw [bne_iff_ne]; exact h58
        clear hR h58
        go_wp2_with fail
        go_ret
        exact ⟨by rw [HQ.out]; rfl, by rw [HQ.out]; exact HM.out⟩
    rw [if_neg s4] at hR
    have a4 : (st == 4) = false := beq_eq_false_iff_ne.2 s4
    have HQ := Aside0.mk hR
    clear hR s4
    go_wp2_with fail
    refine (next_calls W wc g ⟨st, stk, frm, nm, left, cnt, l⟩ c i HM.out HL.out HSL.out hc0 hc1).mono ?_
    rintro e w6 ⟨rfl, hm⟩
    have HM6 := Aside0.mk hm
    clear hm
    go_wp2_with fail
    go_ret
    exact ⟨by rw [HQ.out]; rfl, by rw [HQ.out]; exact HM6.out⟩
  · rw [if_pos rfl] at hR
    have HQ := Aside0.mk hR
    clear hR hl hsl
    go_enter Try.func18, Try.ntmps18
    go_wp2_with (first | (go_at_call 29; refine (HNC.out _).mono ?_; rintro e w_ ⟨rfl, rfl⟩))
    go_ret
    exact ⟨by rw [HQ.out]; rfl, by rw [HQ.out]; exact ⟨HM.out.1.setSt ns, below_set HM.out.2 HG.out⟩⟩
end Go.Proofs.Ytdgdnccpginclaa.JMf
