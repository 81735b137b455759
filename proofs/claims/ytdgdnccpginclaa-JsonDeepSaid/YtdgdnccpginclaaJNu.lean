/- Proved: the program's reader of layer 8: number; the text has at most 100000 bytes. -/
import Derived.Test.YtdgdnccpginclaaJPu
import Derived.Deep.CutRange
namespace Go.Proofs.Ytdgdnccpginclaa.JNu
open Go.RowKit Go.Proofs.YtdgdnccpginclaaW.PrintWords Go.Proofs.YtdgdnccpginclaaW.PrintLast Go.Proofs.YtdgdnccpginclaaW.PrintMore
open Go.Proofs.Ytdgdnccpginclaa.JDefs Go.Proofs.Ytdgdnccpginclaa.JSim Go.Proofs.Ytdgdnccpginclaa.JBase Go.Proofs.Ytdgdnccpginclaa.JRd Go.Proofs.Ytdgdnccpginclaa.JPt Go.Proofs.Ytdgdnccpginclaa.JPu
set_option linter.unusedVariables false
set_option linter.unusedSimpArgs false
set_option maxHeartbeats 8000000
set_option maxRecDepth 100000

theorem dig_le (p : List Int) (i : Nat) (h : i ≤ p.length) : i ≤ (digitsP p i).2 ∧ (digitsP p i).2 ≤ p.length := by
  unfold digitsP
  split
  · have := (List.takeWhile_prefix dig (l := p.drop i)).length_le
    rw [List.length_drop] at this
    simp only; omega
  · simp only; omega
theorem sees_lt (p : List Int) (i : Nat) (h : i ≤ p.length) (hne : sees p i ≠ 0) : i < p.length := by
  rcases at_or p i h with ⟨c, hc, hdr, hse, hlt⟩ | ⟨heq, hn0, hdr, hse⟩
  · exact hlt
  · exact absurd hse hne
section
variable (W w : World) (g : Nat) (P : Option Addr) (cP : Nat) (p : List Int) (a : Nat) (l : List (Int × Int × Int)) (d : Nat)
/-- sees, told by a name. -/
def SeesC (i : Nat) (x : Int) : Prop := ∀ w1, St W w1 g P cP p i l d → Calls Try.prog 21 #[.pointer (some ⟨g, 0, none⟩)] w1 fun e w' => e = .returned (.int .u8 x) ∧ St W w' g P cP p i l d
theorem sees_c (hT : Txt W P cP p) (i : Nat) : SeesC W g P cP p l d i (sees p i) := fun w1 h => sees_st W w1 g P cP p i l d hT h
def DigC (i : Nat) (r : Bool × Nat) : Prop := ∀ w1, St W w1 g P cP p i l d → Calls Try.prog 37 #[.pointer (some ⟨g, 0, none⟩)] w1 (BP W g P cP p l d r)
theorem dig_c (hT : Txt W P cP p) (i : Nat) : DigC W g P cP p l d i (digitsP p i) := fun w1 h => digits_calls W w1 g P cP p i l d hT h
theorem number_calls (hT : Txt W P cP p) (h : St W w g P cP p a l d) :
    Calls Try.prog 25 #[.pointer (some ⟨g, 0, none⟩)] w (BP W g P cP p l d (numberP p a)) := by
  obtain ⟨V, hV⟩ : ∃ V, V = numberP p a := ⟨_, rfl⟩
  rw [← hV]
  unfold numberP at hV
  have HT := Aside0.mk hT
  have HM := Aside0.mk h
  have hn := hT.n
  have hle := h.le
  have ha1 : (a : Int) ≤ 100000 := by omega
  have hsc := sees_c W g P cP p l d hT a
  have hlx := sees_lt p a hle
  generalize sees p a = x at hV hsc hlx
  have HSC := Aside0.mk hsc
  have HV := Aside0.mk hV
  have HLX := Aside0.mk hlx
  clear hT h hV hsc hlx
  go_enter Try.func25, Try.ntmps25
  go_upto_if 6 with (first | (go_at_call 21; refine (HSC.out _ HM.out).mono ?_; rintro e w_ ⟨rfl, hs_⟩; have HM2 := Aside0.mk hs_; clear hs_ HM))
  go_cut [] from 4 to 13 (fun wx => ∃ i : Nat, Aside0 (V = intP p i) ∧ Aside0 (St W wx g P cP p i l d))
  case first =>
    have c1 := HM2.out.c1
    have f1 := HM2.out.fz 1
    by_cases hx : x = 45
    · have t1 : (x == 45) = true := beq_iff_eq.2 hx
      have HV2 := Aside0.mk (show V = intP p (a + 1) by rw [HV.out, if_pos hx])
      have hl := HLX.out (by omega)
      have HM3 := Aside0.mk (HM2.out.setAt (a + 1) (by omega) ((a : Int) + 1) (by omega))
      clear hx
      go_wp2_with fail
      go_meet
      case rel => exact ⟨a + 1, HV2, HM3⟩
    · have t1 : (x == 45) = false := beq_eq_false_iff_ne.2 hx
      have HV2 := Aside0.mk (show V = intP p a by rw [HV.out, if_neg hx])
      clear hx
      go_wp2_with fail
      go_meet
      case rel => exact ⟨a, HV2, HM2⟩
  case rest =>
  obtain ⟨i, HV2, HM3⟩ := hcut
  clear HV HM2 HSC HLX ha1 hle
  have hle := HM3.out.le
  have ha1 : (i : Int) ≤ 100000 := by omega
  have hV := HV2.out
  unfold intP at hV
  have hsc := sees_c W g P cP p l d HT.out i
  have hdc := dig_c W g P cP p l d HT.out i
  have hlx := sees_lt p i hle
  generalize sees p i = x at hV hsc hlx
  generalize digitsP p i = r at hV hdc
  have HSC := Aside0.mk hsc
  have HDC := Aside0.mk hdc
  have HV := Aside0.mk hV
  have HLX := Aside0.mk hlx
  clear hV hsc hlx HV2 hdc
  go_upto_if 16 with (first | (go_at_call 21; refine (HSC.out _ HM3.out).mono ?_; rintro e w_ ⟨rfl, hs_⟩; have HM2 := Aside0.mk hs_; clear hs_ HM3))
  go_cut [] from 14 to 25 (fun wx => ∃ i : Nat, Aside0 (V = fracP p i) ∧ Aside0 (St W wx g P cP p i l d))
  case first =>
    have c1 := HM2.out.c1
    have f1 := HM2.out.fz 1
    by_cases hx : x = 48
    · have t1 : (x == 48) = true := beq_iff_eq.2 hx
      have HV2 := Aside0.mk (show V = fracP p (i + 1) by rw [HV.out, if_pos hx])
      have hl := HLX.out (by omega)
      have HM3 := Aside0.mk (HM2.out.setAt (i + 1) (by omega) ((i : Int) + 1) (by omega))
      clear hx
      go_wp2_with fail
      go_meet
      case rel => exact ⟨i + 1, HV2, HM3⟩
    · have t1 : (x == 48) = false := beq_eq_false_iff_ne.2 hx
      have hv := HV.out
      rw [if_neg hx] at hv
      obtain ⟨b, j⟩ := r
      have HVV := Aside0.mk hv
      clear hx hv
      go_wp2_with fail
      refine (HDC.out _ HM2.out).mono ?_
      rintro e w4 hp
      cases b with
      | true =>
        obtain ⟨rfl, hs_⟩ := hp.1 rfl
        have HM4 := Aside0.mk hs_
        clear hp hs_
        go_wp2_with fail
        go_meet
        case rel => exact ⟨j, ⟨by rw [HVV.out]; rfl⟩, HM4⟩
      | false =>
        obtain ⟨he_, hb_⟩ := hp.2 rfl
        have HB4 := Aside0.mk hb_
        clear hp hb_
        unfold stopE at he_
        subst he_
        go_wp2_with fail
        refine ⟨rfl, ?_⟩
        rw [HVV.out]
        exact ⟨(fun h => by cases h), fun _ => ⟨rfl, HB4.out⟩⟩
  case rest =>
  obtain ⟨i, HV2, HM3⟩ := hcut
  clear HV HM2 HSC HLX ha1 hle HDC
  have hle := HM3.out.le
  have ha1 : (i : Int) ≤ 100000 := by omega
  have hV := HV2.out
  unfold fracP at hV
  have hsc := sees_c W g P cP p l d HT.out i
  have hdc := dig_c W g P cP p l d HT.out (i + 1)
  have hlx := sees_lt p i hle
  generalize sees p i = x at hV hsc hlx
  generalize digitsP p (i + 1) = r at hV hdc
  have HSC := Aside0.mk hsc
  have HDC := Aside0.mk hdc
  have HV := Aside0.mk hV
  have HLX := Aside0.mk hlx
  clear hV hsc hlx HV2 hdc
  go_upto_if 28 with (first | (go_at_call 21; refine (HSC.out _ HM3.out).mono ?_; rintro e w_ ⟨rfl, hs_⟩; have HM2 := Aside0.mk hs_; clear hs_ HM3))
  go_cut [] from 26 to 37 (fun wx => ∃ i : Nat, Aside0 (V = expP p i) ∧ Aside0 (St W wx g P cP p i l d))
  case first =>
    have c1 := HM2.out.c1
    have f1 := HM2.out.fz 1
    by_cases hx : x = 46
    · have t1 : (x == 46) = true := beq_iff_eq.2 hx
      have hl := HLX.out (by omega)
      have HM3 := Aside0.mk (HM2.out.setAt (i + 1) (by omega) ((i : Int) + 1) (by omega))
      have hv := HV.out
      rw [if_pos hx] at hv
      obtain ⟨b, j⟩ := r
      have HVV := Aside0.mk hv
      clear hx hv
      go_wp2_with fail
      refine (HDC.out _ HM3.out).mono ?_
      rintro e w4 hp
      cases b with
      | true =>
        obtain ⟨rfl, hs_⟩ := hp.1 rfl
        have HM4 := Aside0.mk hs_
        clear hp hs_
        go_wp2_with fail
        go_meet
        case rel => exact ⟨j, ⟨by rw [HVV.out]; rfl⟩, HM4⟩
      | false =>
        obtain ⟨he_, hb_⟩ := hp.2 rfl
        have HB4 := Aside0.mk hb_
        clear hp hb_
        unfold stopE at he_
        subst he_
        go_wp2_with fail
        refine ⟨rfl, ?_⟩
        rw [HVV.out]
        exact ⟨(fun h => by cases h), fun _ => ⟨rfl, HB4.out⟩⟩
    · have t1 : (x == 46) = false := beq_eq_false_iff_ne.2 hx
      have HV2 := Aside0.mk (show V = expP p i by rw [HV.out, if_neg hx])
      clear hx
      go_wp2_with fail
      go_meet
      case rel => exact ⟨i, HV2, HM2⟩
  case rest =>
  obtain ⟨i, HV2, HM3⟩ := hcut
  clear HV HM2 HSC HLX ha1 hle HDC
  have hle := HM3.out.le
  have ha1 : (i : Int) ≤ 100000 := by omega
  have hV := HV2.out
  unfold expP at hV
  have hsc := sees_c W g P cP p l d HT.out i
  have hlx := sees_lt p i hle
  generalize sees p i = x at hV hsc hlx
  have hsc2 := sees_c W g P cP p l d HT.out (i + 1)
  have HLY := Aside0.mk (fun h => sees_lt p (i + 1) h)
  generalize sees p (i + 1) = y at hV hsc2 HLY
  have HSC := Aside0.mk hsc
  have HSC2 := Aside0.mk hsc2
  have HV := Aside0.mk hV
  have HLX := Aside0.mk hlx
  clear hV hsc hlx HV2 hsc2
  by_cases hx : x = 101 ∨ x = 69
  · have hv := HV.out
    rw [if_pos hx] at hv
    have hl := HLX.out (by omega)
    have HL := Aside0.mk hl
    have HVV := Aside0.mk hv
    have hor : (x == 101) = true ∨ (x == 101) = false ∧ (x == 69) = true := by
      by_cases h1 : x = 101
      · exact .inl (beq_iff_eq.2 h1)
      · exact .inr ⟨beq_eq_false_iff_ne.2 h1, beq_iff_eq.2 (by omega)⟩
    clear hv hx hl
    rcases hor with t1 | ⟨t1, t2⟩
    all_goals
      go_wp2_with fail
      refine (HSC.out _ HM3.out).mono ?_
      rintro e w4 ⟨rfl, hs_⟩
      have HM4 := Aside0.mk hs_
      have c1 := hs_.c1
      have f1 := hs_.fz 1
      have HM5 := Aside0.mk (hs_.setAt (i + 1) (by have := HL.out; omega) ((i : Int) + 1) (by omega))
      clear hs_
      go_wp2_with fail
      refine (HSC2.out _ HM5.out).mono ?_
      rintro e w5 ⟨rfl, hs_⟩
      have HM6 := Aside0.mk hs_
      clear hs_ HM5 c1 f1
      have c1 := HM6.out.c1
      have f1 := HM6.out.fz 1
      have ha2 : ((i + 1 : Nat) : Int) ≤ 100001 := by omega
      by_cases hy : y = 43 ∨ y = 45
      · have hl := HLY.out (by have := HL.out; omega) (by omega)
        have HM7 := Aside0.mk (HM6.out.setAt (i + 2) (by omega) ((i : Int) + 1 + 1) (by omega))
        have hdc := dig_c W g P cP p l d HT.out (i + 2)
        rw [← show V = digitsP p (i + 2) by rw [HVV.out, if_pos hy]] at hdc
        have HDC := Aside0.mk hdc
        have hor : (y == 43) = true ∨ (y == 43) = false ∧ (y == 45) = true := by
          by_cases h1 : y = 43
          · exact .inl (beq_iff_eq.2 h1)
          · exact .inr ⟨beq_eq_false_iff_ne.2 h1, beq_iff_eq.2 (by omega)⟩
        clear hy hl hdc HVV
        rcases hor with u1 | ⟨u1, u2⟩
        all_goals
          go_wp2_with fail
          refine (HDC.out _ HM7.out).mono ?_
          rintro e w8 hp
          obtain ⟨b, k⟩ := V
          cases b with
          | true =>
            obtain ⟨rfl, hs_⟩ := hp.1 rfl
            have HM8 := Aside0.mk hs_
            clear hp hs_
            go_wp2_with fail
            go_end0
            exact ⟨fun _ => ⟨rfl, HM8.out⟩, fun h => by cases h⟩
          | false =>
            obtain ⟨he_, hb_⟩ := hp.2 rfl
            have HB8 := Aside0.mk hb_
            clear hp hb_
            unfold stopE at he_
            subst he_
            go_wp2_with fail
            exact ⟨rfl, (fun h => by cases h), fun _ => ⟨rfl, HB8.out⟩⟩
      · have u1 : (y == 43) = false := beq_eq_false_iff_ne.2 (by omega)
        have u2 : (y == 45) = false := beq_eq_false_iff_ne.2 (by omega)
        have hdc := dig_c W g P cP p l d HT.out (i + 1)
        rw [← show V = digitsP p (i + 1) by rw [HVV.out, if_neg hy]] at hdc
        have HDC := Aside0.mk hdc
        clear hy hdc HVV
        go_wp2_with fail
        refine (HDC.out _ HM6.out).mono ?_
        rintro e w8 hp
        obtain ⟨b, k⟩ := V
        cases b with
        | true =>
          obtain ⟨rfl, hs_⟩ := hp.1 rfl
          have HM8 := Aside0.mk hs_
          clear hp hs_
          go_wp2_with fail
          go_end0
          exact ⟨fun _ => ⟨rfl, HM8.out⟩, fun h => by cases h⟩
        | false =>
          obtain ⟨he_, hb_⟩ := hp.2 rfl
          have HB8 := Aside0.mk hb_
          clear hp hb_
          unfold stopE at he_
          subst he_
          go_wp2_with fail
          exact ⟨rfl, (fun h => by cases h), fun _ => ⟨rfl, HB8.out⟩⟩
  · have t1 : (x == 101) = false := beq_eq_false_iff_ne.2 (by omega)
    have t2 : (x == 69) = false := beq_eq_false_iff_ne.2 (by omega)
    have HV3 := Aside0.mk (show V = (true, i) by rw [HV.out, if_neg hx])
    clear hx
    go_wp2_with fail
    refine (HSC.out _ HM3.out).mono ?_
    rintro e w4 ⟨rfl, hs_⟩
    have HM4 := Aside0.mk hs_
    clear hs_
    go_wp2_with fail
    go_end0
    rw [HV3.out]
    exact ⟨fun _ => ⟨rfl, HM4.out⟩, fun h => by cases h⟩
end
end Go.Proofs.Ytdgdnccpginclaa.JNu
