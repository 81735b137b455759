/- Proved: the reference's machine of layer 8 in memory: inside; its lists are short. -/
import Derived.Test.YtdgdnccpginclaaJMs
import Derived.Test.YtdgdnccpginclaaJMn
import Derived.Test.YtdgdnccpginclaaJPu
import Derived.Deep.CutRange
namespace Go.Proofs.Ytdgdnccpginclaa.JMi
open Go.RowKit Go.Proofs.YtdgdnccpginclaaW.PrintWords Go.Proofs.YtdgdnccpginclaaW.PrintLast Go.Proofs.YtdgdnccpginclaaW.PrintMore
open Go.Proofs.Ytdgdnccpginclaa.JDefs Go.Proofs.Ytdgdnccpginclaa.JBase Go.Proofs.Ytdgdnccpginclaa.JMem Go.Proofs.Ytdgdnccpginclaa.JMr
set_option linter.unusedVariables false
set_option linter.unusedSimpArgs false
set_option maxHeartbeats 8000000
set_option maxRecDepth 100000

theorem strOf_nil : strOfNums [] = ⟨#[]⟩ := rfl
theorem strOf_size (xs : List Int) : (strOfNums xs).size = xs.length := by simp [strOfNums, ByteArray.size]
theorem bytesOf_str {xs : List Int} (h : ByteL xs) : bytesOf (strOfNums xs) = xs := by
  unfold bytesOf strOfNums
  simp only [List.map_map]
  conv => rhs; rw [← List.map_id xs]
  refine List.map_congr_left fun x hx => ?_
  have := h x hx
  simp
  omega
theorem str_ix (x : Int) (t : List Int) (h : ByteL (x :: t)) (W : World) : (Instr.index 9 (.string (strOfNums (x :: t))) (.int .i64 0)).run Try.prog W = .ok (.int .u8 x) W := by
  have := JPu.run_ix 9 rfl (strOfNums (x :: t)) 0 (by rw [strOf_size]; simp) W
  rw [bytesOf_str h] at this
  exact this
theorem str_tail (x : Int) (t : List Int) (W : World) : (Instr.slice 9 (.string (strOfNums (x :: t))) (some (.int .i64 1)) none none).run Try.prog W = .ok (.string (strOfNums t)) W := by
  have h9 : Try.prog.underlying 9 = some .string := by kernel_rfl
  have := run_slice_string_from_if (P := Try.prog) (w := W) 9 (strOfNums (x :: t)) .i64 1 h9
  have he : (strOfNums (x :: t)).extract 1 (t.length + 1) = strOfNums t := by
    apply ByteArray.ext
    simp [strOfNums, ByteArray.size]
    exact List.take_of_length_le (by simp)
  simp [this, strOf_size, go_sem]
  rw [if_pos (by omega), he]
set_option maxHeartbeats 16000000 in
theorem inside_calls (W w : World) (g : Nat) (m : Mach) (c i : Int) (h : Mt W w g m) (hl : m.l.length ≤ 999999) (h0 : 0 ≤ m.frm) (h1 : m.frm ≤ i) (h2 : i ≤ 900000000) (hc0 : 0 ≤ c) (hc1 : c ≤ 255)
    (hst : m.st = 6 ∨ m.st = 7 ∨ m.st = 8 ∨ m.st = 17 ∧ m.left ≠ [] ∧ ByteL m.left) (hcnt0 : 0 ≤ m.count) (hcnt1 : m.count ≤ 4) :
    Calls Try.prog 30 #[.pointer (some ⟨g, 0, none⟩), .int .u8 c, .int .i64 i] w fun e w' => e = .returned (.int .i64 (minside m c i).2) ∧ Mt W w' g (minside m c i).1 := by
  obtain ⟨R, hR⟩ : ∃ R, R = minside m c i := ⟨_, rfl⟩
  rw [← hR]
  have HG := Aside0.mk h.1.1
  have c0 := h.1.c0
  have c4 := h.1.c4
  have c5 := h.1.c5
  have f0 := h.1.fz 0
  have f4 := h.1.fz 4
  have f5 := h.1.fz 5
  obtain ⟨st, stk, frm, nm, left, cnt, l⟩ := m
  unfold minside at hR
  simp only at hR hl h0 h1 hst c0 c4 c5 hcnt0 hcnt1
  have HL := Aside0.mk hl
  have HM := Aside0.mk h
  have HD := Aside0.mk digit_calls
  clear h hl
  rcases hst with rfl | rfl | rfl | ⟨rfl, hne, hbl⟩
  · rw [if_pos rfl] at hR
    by_cases h32 : c < 32
    · rw [if_pos h32] at hR
      have HQ := Aside0.mk hR
      have t1 : decide (c < 32) = true := decide_eq_true h32
      clear hR h32
      go_enter Try.func30, Try.ntmps30
      go_wp2_with (fail)
      go_ret
      exact ⟨by rw [HQ.out]; rfl, by rw [HQ.out]; exact HM.out⟩
    · rw [if_neg h32] at hR
      have t1 : decide (c < 32) = false := decide_eq_false h32
      by_cases h34 : c = 34
      · rw [if_pos h34] at hR
        have HQ := Aside0.mk hR
        have t2 : (c == 34) = true := beq_iff_eq.2 h34
        clear hR h34 h32
        go_enter Try.func30, Try.ntmps30
        go_wp2_with fail
        refine (atom_calls W _ g ⟨6, stk, frm, nm, left, cnt, l⟩ (i + 1) HM.out (by have := HL.out; simp only; omega) h0 (by simp only; omega) (by omega)).mono ?_
        rintro e w6 ⟨rfl, hm⟩
        have HM6 := Aside0.mk hm
        clear hm
        go_wp2_with fail
        go_ret
        exact ⟨by rw [HQ.out]; rfl, by rw [HQ.out]; exact HM6.out⟩
      · rw [if_neg h34] at hR
        have t2 : (c == 34) = false := beq_eq_false_iff_ne.2 h34
        by_cases h92 : c = 92
        · rw [if_pos h92] at hR
          have HQ := Aside0.mk hR
          have t3 : (c == 92) = true := beq_iff_eq.2 h92
          clear hR h34 h32 h92
          go_enter Try.func30, Try.ntmps30
          go_wp2_with (fail)
          go_ret
          exact ⟨by rw [HQ.out]; rfl, by rw [HQ.out]; exact ⟨HM.out.1.setSt 7, below_set HM.out.2 HG.out⟩⟩
        · rw [if_neg h92] at hR
          have HQ := Aside0.mk hR
          have t3 : (c == 92) = false := beq_eq_false_iff_ne.2 h92
          clear hR h34 h32 h92
          go_enter Try.func30, Try.ntmps30
          go_wp2_with (fail)
          go_ret
          exact ⟨by rw [HQ.out]; rfl, by rw [HQ.out]; exact HM.out⟩
  · rw [if_neg (by decide), if_pos rfl] at hR
    by_cases h117 : c = 117
    · rw [if_pos h117] at hR
      have HQ := Aside0.mk hR
      have t2 : (c == 117) = true := beq_iff_eq.2 h117
      clear hR h117
      go_enter Try.func30, Try.ntmps30
      go_wp2_with (fail)
      go_ret
      exact ⟨by rw [HQ.out]; rfl, by rw [HQ.out]; exact ⟨(HM.out.1.setSt 8).setCount 4, below_set (below_set HM.out.2 HG.out) HG.out⟩⟩
    · rw [if_neg h117] at hR
      have t2 : (c == 117) = false := beq_eq_false_iff_ne.2 h117
      by_cases hE : escB c = true
      · rw [if_pos hE] at hR
        have HQ := Aside0.mk hR
        clear hR h117
        by_cases k34 : c = 34
        · have e34 : (c == 34) = true := beq_iff_eq.2 k34
          clear k34
          go_enter Try.func30, Try.ntmps30
          go_wp2_with (fail)
          go_ret
          exact ⟨by rw [HQ.out]; rfl, by rw [HQ.out]; exact ⟨HM.out.1.setSt 6, below_set HM.out.2 HG.out⟩⟩
        have e34 : (c == 34) = false := beq_eq_false_iff_ne.2 k34
        by_cases k92 : c = 92
        · have e92 : (c == 92) = true := beq_iff_eq.2 k92
          clear k92
          go_enter Try.func30, Try.ntmps30
          go_wp2_with (fail)
          go_ret
          exact ⟨by rw [HQ.out]; rfl, by rw [HQ.out]; exact ⟨HM.out.1.setSt 6, below_set HM.out.2 HG.out⟩⟩
        have e92 : (c == 92) = false := beq_eq_false_iff_ne.2 k92
        by_cases k47 : c = 47
        · have e47 : (c == 47) = true := beq_iff_eq.2 k47
          clear k47
          go_enter Try.func30, Try.ntmps30
          go_wp2_with (fail)
          go_ret
          exact ⟨by rw [HQ.out]; rfl, by rw [HQ.out]; exact ⟨HM.out.1.setSt 6, below_set HM.out.2 HG.out⟩⟩
        have e47 : (c == 47) = false := beq_eq_false_iff_ne.2 k47
        by_cases k98 : c = 98
        · have e98 : (c == 98) = true := beq_iff_eq.2 k98
          clear k98
          go_enter Try.func30, Try.ntmps30
          go_wp2_with (fail)
          go_ret
          exact ⟨by rw [HQ.out]; rfl, by rw [HQ.out]; exact ⟨HM.out.1.setSt 6, below_set HM.out.2 HG.out⟩⟩
        have e98 : (c == 98) = false := beq_eq_false_iff_ne.2 k98
        by_cases k102 : c = 102
        · have e102 : (c == 102) = true := beq_iff_eq.2 k102
          clear k102
          go_enter Try.func30, Try.ntmps30
          go_wp2_with (fail)
          go_ret
          exact ⟨by rw [HQ.out]; rfl, by rw [HQ.out]; exact ⟨HM.out.1.setSt 6, below_set HM.out.2 HG.out⟩⟩
        have e102 : (c == 102) = false := beq_eq_false_iff_ne.2 k102
        by_cases k110 : c = 110
        · have e110 : (c == 110) = true := beq_iff_eq.2 k110
          clear k110
          go_enter Try.func30, Try.ntmps30
          go_wp2_with (fail)
          go_ret
          exact ⟨by rw [HQ.out]; rfl, by rw [HQ.out]; exact ⟨HM.out.1.setSt 6, below_set HM.out.2 HG.out⟩⟩
        have e110 : (c == 110) = false := beq_eq_false_iff_ne.2 k110
        by_cases k114 : c = 114
        · have e114 : (c == 114) = true := beq_iff_eq.2 k114
          clear k114
          go_enter Try.func30, Try.ntmps30
          go_wp2_with (fail)
          go_ret
          exact ⟨by rw [HQ.out]; rfl, by rw [HQ.out]; exact ⟨HM.out.1.setSt 6, below_set HM.out.2 HG.out⟩⟩
        have e114 : (c == 114) = false := beq_eq_false_iff_ne.2 k114
        by_cases k116 : c = 116
        · have e116 : (c == 116) = true := beq_iff_eq.2 k116
          clear k116
          go_enter Try.func30, Try.ntmps30
          go_wp2_with (fail)
          go_ret
          exact ⟨by rw [HQ.out]; rfl, by rw [HQ.out]; exact ⟨HM.out.1.setSt 6, below_set HM.out.2 HG.out⟩⟩
        have e116 : (c == 116) = false := beq_eq_false_iff_ne.2 k116
        exfalso
        unfold escB at hE
        rw [e34, e92, e47, e98, e102, e110, e114, e116] at hE
        exact absurd hE (by decide)
      · rw [if_neg hE] at hR
        have HQ := Aside0.mk hR
        have hE' : escB c = false := by simpa using hE
        unfold escB at hE'
        simp only [Bool.or_eq_false_iff] at hE'
        obtain ⟨⟨⟨⟨⟨⟨⟨e34, e92⟩, e47⟩, e98⟩, e102⟩, e110⟩, e114⟩, e116⟩ := hE'
        clear hR h117 hE
        go_enter Try.func30, Try.ntmps30
        go_wp2_with (fail)
        go_ret
        exact ⟨by rw [HQ.out]; rfl, by rw [HQ.out]; exact ⟨HM.out.1.setSt 6, below_set HM.out.2 HG.out⟩⟩
  · rw [if_neg (by decide), if_neg (by decide), if_pos rfl] at hR
    by_cases hH : hexB c = true
    · rw [if_pos hH] at hR
      have hor : dig c = true ∨ dig c = false ∧ decide (c < 97) = false ∧ decide (102 < c) = false ∨ dig c = false ∧ decide (c < 97) = true ∧ decide (c < 65) = false ∧ decide (70 < c) = false := by
        unfold hexB at hH
        cases hd : dig c with
        | true => exact .inl rfl
        | false =>
          rw [hd] at hH
          simp only [Bool.false_or, Bool.or_eq_true, Bool.and_eq_true, decide_eq_true_eq] at hH
          rcases hH with ⟨a1, a2⟩ | ⟨a1, a2⟩
          · exact .inr (.inl ⟨rfl, decide_eq_false (by omega), decide_eq_false (by omega)⟩)
          · exact .inr (.inr ⟨rfl, decide_eq_true (by omega), decide_eq_false (by omega), decide_eq_false (by omega)⟩)
      by_cases hz : cnt - 1 = 0
      · rw [if_pos hz] at hR
        have HQ := Aside0.mk hR
        obtain rfl : cnt = 1 := by omega
        clear hR hH hz hcnt0 hcnt1
        rcases hor with d1 | ⟨d1, d2, d3⟩ | ⟨d1, d2, d3, d4⟩
        all_goals
          go_enter Try.func30, Try.ntmps30
          go_wp2_with ((first | (go_at_call 39; refine (HD.out _ c).mono ?_; rintro e w_ ⟨rfl, rfl⟩)))
          go_ret
          exact ⟨by rw [HQ.out]; rfl, by rw [HQ.out]; exact ⟨(HM.out.1.setCount 0).setSt 6, below_set (below_set HM.out.2 HG.out) HG.out⟩⟩
      · rw [if_neg hz] at hR
        have HQ := Aside0.mk hR
        have e5 : (cnt - 1 == 0) = false := beq_eq_false_iff_ne.2 hz
        clear hR hH hz
        rcases hor with d1 | ⟨d1, d2, d3⟩ | ⟨d1, d2, d3, d4⟩
        all_goals
          go_enter Try.func30, Try.ntmps30
          go_wp2_with ((first | (go_at_call 39; refine (HD.out _ c).mono ?_; rintro e w_ ⟨rfl, rfl⟩)))
          go_ret
          exact ⟨by rw [HQ.out]; rfl, by rw [HQ.out]; exact ⟨HM.out.1.setCount (cnt - 1), below_set HM.out.2 HG.out⟩⟩
    · rw [if_neg hH] at hR
      have HQ := Aside0.mk hR
      have hH' : hexB c = false := by simpa using hH
      unfold hexB at hH'
      simp only [Bool.or_eq_false_iff] at hH'
      obtain ⟨⟨d1, d2⟩, d3⟩ := hH'
      have hor : (decide (c < 97) = true ∧ decide (c < 65) = true) ∨ (decide (c < 97) = true ∧ decide (c < 65) = false ∧ decide (70 < c) = true) ∨ (decide (c < 97) = false ∧ decide (102 < c) = true ∧ decide (c < 65) = false ∧ decide (70 < c) = true) := by
        simp only [Bool.and_eq_false_iff, decide_eq_false_iff_not] at d2 d3
        by_cases a1 : c < 97
        · by_cases a2 : c < 65
          · exact .inl ⟨decide_eq_true a1, decide_eq_true a2⟩
          · exact .inr (.inl ⟨decide_eq_true a1, decide_eq_false a2, decide_eq_true (by omega)⟩)
        · exact .inr (.inr ⟨decide_eq_false a1, decide_eq_true (by omega), decide_eq_false (by omega), decide_eq_true (by omega)⟩)
      clear hR hH d2 d3
      rcases hor with ⟨a1, a2⟩ | ⟨a1, a2, a3⟩ | ⟨a1, a2, a3, a4⟩
      all_goals
        go_enter Try.func30, Try.ntmps30
        go_wp2_with ((first | (go_at_call 39; refine (HD.out _ c).mono ?_; rintro e w_ ⟨rfl, rfl⟩)))
        go_ret
        exact ⟨by rw [HQ.out]; rfl, by rw [HQ.out]; exact HM.out⟩
  · rw [if_neg (by decide), if_neg (by decide), if_neg (by decide)] at hR
    obtain ⟨x, t, rfl⟩ : ∃ x t, left = x :: t := by
      cases left with
      | nil => exact absurd rfl hne
      | cons x t => exact ⟨x, t, rfl⟩
    change R = (if c = x then (if t = [] then (matom ⟨17, stk, frm, nm, [], cnt, l⟩ (i + 1), 0) else (⟨17, stk, frm, nm, t, cnt, l⟩, 0)) else (⟨17, stk, frm, nm, x :: t, cnt, l⟩, 5)) at hR
    have hix := str_ix x t hbl
    have hsl := str_tail x t
    have hxb := hbl x (by simp)
    have HML := Aside0.mk (show Mt W (w.setCell ⟨g, 4, none⟩ (.string (strOfNums t))) g ⟨17, stk, frm, nm, t, cnt, l⟩ from ⟨HM.out.1.setLeft t _ rfl, below_set HM.out.2 HG.out⟩)
    generalize hs1 : strOfNums (x :: t) = s1 at c4 hix hsl
    by_cases hx : c = x
    · rw [if_pos hx] at hR
      have t1 : (c != x) = false := by rw [hx]; simp
      cases t with
      | nil =>
        rw [if_pos rfl] at hR
        have HQ := Aside0.mk hR
        rw [strOf_nil] at hsl HML
        clear hR hx hs1 hne hbl
        go_enter Try.func30, Try.ntmps30
        go_wp2_with fail
        refine (atom_calls W _ g ⟨17, stk, frm, nm, [], cnt, l⟩ (i + 1) HML.out (by have := HL.out; simp only; omega) h0 (by simp only; omega) (by omega)).mono ?_
        rintro e w6 ⟨rfl, hm⟩
        have HM6 := Aside0.mk hm
        clear hm
        go_wp2_with fail
        go_ret
        exact ⟨by rw [HQ.out]; rfl, by rw [HQ.out]; exact HM6.out⟩
      | cons y t =>
        rw [if_neg (by simp)] at hR
        have HQ := Aside0.mk hR
        have hlen : (strOfNums (y :: t)).toList ≠ [] := by
          rw [ByteArray.toList_eq]; simp [strOfNums]
        generalize strOfNums (y :: t) = s2 at hsl HML hlen
        have q1 : (s2.toList == []) = false := beq_eq_false_iff_ne.2 hlen
        have q2 : s2.toList.isEmpty = false := by simpa using hlen
        clear hR hx hs1 hne hbl
        go_enter Try.func30, Try.ntmps30
        go_wp2_with (fail)
        go_ret
        exact ⟨by rw [HQ.out]; rfl, by rw [HQ.out]; exact HML.out⟩
    · rw [if_neg hx] at hR
      have HQ := Aside0.mk hR
      have t1 : (c != x) = true := by rw [bne_iff_ne]; exact hx
      clear hR hx hs1 hne hbl
      go_enter Try.func30, Try.ntmps30
      go_wp2_with (fail)
      go_ret
      exact ⟨by rw [HQ.out]; rfl, by rw [HQ.out]; exact HM.out⟩
end Go.Proofs.Ytdgdnccpginclaa.JMi
