/- Proved: the program's reader of layer 8: text; the text has at most 100000 bytes. -/
import Derived.Test.YtdgdnccpginclaaJPv
import Derived.Test.YtdgdnccpginclaaJNu
import Derived.Deep.CutRange
import Derived.WalkMore
namespace Go.Proofs.Ytdgdnccpginclaa.JTx
open Go.RowKit Go.Proofs.YtdgdnccpginclaaW.PrintWords Go.Proofs.YtdgdnccpginclaaW.PrintLast Go.Proofs.YtdgdnccpginclaaW.PrintMore
open Go.Proofs.Ytdgdnccpginclaa.JDefs Go.Proofs.Ytdgdnccpginclaa.JSim Go.Proofs.Ytdgdnccpginclaa.JSimb Go.Proofs.Ytdgdnccpginclaa.JBase Go.Proofs.Ytdgdnccpginclaa.JRd Go.Proofs.Ytdgdnccpginclaa.JPt Go.Proofs.Ytdgdnccpginclaa.JPu Go.Proofs.Ytdgdnccpginclaa.JPv
set_option linter.unusedVariables false
set_option linter.unusedSimpArgs false
set_option maxHeartbeats 8000000
set_option maxRecDepth 100000

theorem signs_at (p : List Int) (f i : Nat) : signsP p (f + 1) i = match p[i]? with
    | none => (false, i)
    | some c => if c < 32 then (false, i) else if c = 34 then (true, i + 1) else if c = 92 then (if (escP p (i + 1)).1 then signsP p f (escP p (i + 1)).2 else escP p (i + 1)) else signsP p f (i + 1) := rfl
theorem escP_le (p : List Int) (i : Nat) (h : i ≤ p.length) : i ≤ (escP p i).2 ∧ (escP p i).2 ≤ p.length := by
  obtain ⟨h1, h2, _⟩ := esc_spec p [] 0 false [] i h
  exact ⟨h1, h2⟩
section
variable (W w : World) (g : Nat) (P : Option Addr) (cP : Nat) (p : List Int) (a : Nat) (l : List (Int × Int × Int)) (d : Nat)
theorem text_calls (hT : Txt W P cP p) (h : St W w g P cP p a l d) :
    Calls Try.prog 24 #[.pointer (some ⟨g, 0, none⟩)] w (BP W g P cP p l d (textP p a)) := by
  obtain ⟨V, hV⟩ : ∃ V, V = textP p a := ⟨_, rfl⟩
  rw [← hV]
  unfold textP at hV
  have HT := Aside0.mk hT
  have HM := Aside0.mk h
  have hn := hT.n
  have hle := h.le
  have hw := want_calls W w g P cP p a l d 34 hT h
  by_cases hc : p[a]? = some 34
  · rw [if_pos hc] at hV hw
    have hlt := (List.getElem?_eq_some_iff.1 hc).1
    have HV := Aside0.mk hV
    have HW := Aside0.mk hw
    clear hV hw hc hT h
    go_enter Try.func24, Try.ntmps24
    go_wp2_with fail
    go_step3
    go_wp2_with fail
    refine HW.out.mono ?_
    rintro e w2 hp
    obtain ⟨rfl, hs_⟩ := hp.1 rfl
    have HM2 := Aside0.mk hs_
    clear hp hs_ HW HM
    go_wp2_with fail
    go_step3
    go_wp2_with fail
    go_loopg [2] (p.length - a) (fun kq v2 w' => ∃ i f : Nat, Aside0 (i + kq = p.length + 1 ∧ i ≤ p.length ∧ p.length ≤ f + i) ∧ Aside0 (V = signsP p (f + 1) i) ∧ Aside0 (St W w' g P cP p i l d))
    case atStart => exact ⟨a + 1, p.length - 1, ⟨by omega⟩, ⟨by rw [HV.out, show p.length - 1 + 1 = p.length by omega]⟩, HM2⟩
    case round =>
      clear HM2 HV
      obtain ⟨i, f, HI, HV, HM⟩ := hrel
      have c0 := HM.out.c0
      have c1 := HM.out.c1
      have hi1 : (i : Int) ≤ 100000 := by have := HI.out; omega
      have hv := HV.out
      rw [signs_at] at hv
      by_cases hlti : i < p.length
      · have HLT := Aside0.mk hlti
        have ht : ((i : Int) == (p.length : Int)) = false := beq_eq_false_iff_ne.2 (by omega)
        have p0 : (0 : Int) ≤ (i : Int) := by omega
        have p1 : (i : Int) < (p.length : Int) := by omega
        obtain ⟨ad, ea, hx, hx0, hx1⟩ := HM.out.cell HT.out i hlti
        cases ea
        generalize hcv : p.getD i 0 = x at hx hx0 hx1
        rw [getQ hlti hcv] at hv
        simp only at hv
        clear hcv
        by_cases h32 : x < 32
        · rw [if_pos h32] at hv
          have t1 : decide (x < 32) = true := decide_eq_true h32
          have HV2 := Aside0.mk hv
          clear hv
          go_wp2_with fail
          go_quiet (fail)
          simp only [Exit.then]
          apply_assumption
          have HM4 := Aside0.mk (HM.out.drewN nq)
          go_wp2_with fail
          refine (fail_calls W _ g (some ad) cP p i l d HM4.out).mono ?_
          rintro e w5 ⟨he_, rfl⟩
          unfold stopE at he_
          subst he_
          go_wp2_with fail
          refine ⟨rfl, ?_⟩
          rw [HV2.out]
          exact ⟨(fun h => by cases h), fun _ => ⟨rfl, HM4.out.bel⟩⟩

        · rw [if_neg h32] at hv
          have t1 : decide (x < 32) = false := decide_eq_false h32
          have HVV := Aside0.mk hv
          clear hv
          go_wp2_with fail
          go_quiet (fail)
          simp only [Exit.then]
          apply_assumption
          have HM3 := Aside0.mk (HM.out.drewN nq)
          have hx2 : (wr.drewN nq).cell? (ad.add i) = some (.int .u8 x) := hx
          clear c0 c1 HM hx
          generalize wr.drewN nq = w3 at HM3 hx2
          have c0 := HM3.out.c0
          have c1 := HM3.out.c1
          go_wp2_with fail
          go_quiet (fail)
          simp only [Exit.then]
          apply_assumption
          have HM4 := Aside0.mk (HM3.out.drewN nq)
          clear c0 c1 HM3 hx2
          generalize w3.drewN nq = w4 at HM4
          have c1 := HM4.out.c1
          have f1 := HM4.out.fz 1
          have HM5 := Aside0.mk (HM4.out.setAt (i + 1) (by have := HLT.out; omega) ((i : Int) + 1) (by omega))
          have hv := HVV.out
          by_cases h34 : x = 34
          · rw [if_pos h34] at hv
            have e34 : (x == 34) = true := beq_iff_eq.2 h34
            have HV2 := Aside0.mk hv
            clear hv h34
            go_wp2_with fail
            go_end0
            rw [HV2.out]
            exact ⟨fun _ => ⟨rfl, HM5.out⟩, fun h => by cases h⟩
          · rw [if_neg h34] at hv
            have e34 : (x == 34) = false := beq_eq_false_iff_ne.2 h34
            by_cases h92 : x = 92
            · rw [if_pos h92] at hv
              have e92 : (x == 92) = true := beq_iff_eq.2 h92
              have hes := fun w1 h => escape_calls W w1 g (some ad) cP p (i + 1) l d HT.out h
              have hel := escP_le p (i + 1) (by omega)
              generalize escP p (i + 1) = r at hv hes hel
              obtain ⟨b, j⟩ := r
              have HES := Aside0.mk hes
              have HEL := Aside0.mk hel
              have HV2 := Aside0.mk hv
              clear hv h34 h92 hes hel
              go_wp2_with fail
              refine (HES.out _ HM5.out).mono ?_
              rintro e w6 hp
              cases b with
              | true =>
                obtain ⟨rfl, hs_⟩ := hp.1 rfl
                have HM6 := Aside0.mk hs_
                clear hp hs_
                go_wp2_with fail
                go_roundg (p.length + 1 - j)
                case measure => have h1 := HI.out; have h2 := HEL.out; (try simp only at h2); omega
                case rel => exact ⟨j, f - 1, ⟨by have h1 := HI.out; have h2 := HEL.out; have h3 := HLT.out; (try simp only at h2); omega⟩, ⟨by rw [HV2.out, show f - 1 + 1 = f by have h1 := HI.out; have h3 := HLT.out; omega]; rfl⟩, HM6⟩
              | false =>
                obtain ⟨he_, hb_⟩ := hp.2 rfl
                have HB6 := Aside0.mk hb_
                clear hp hb_
                unfold stopE at he_
                subst he_
                go_wp2_with fail
                refine ⟨rfl, ?_⟩
                rw [HV2.out]
                exact ⟨(fun h => by cases h), fun _ => ⟨rfl, HB6.out⟩⟩
            · rw [if_neg h92] at hv
              have e92 : (x == 92) = false := beq_eq_false_iff_ne.2 h92
              have HV2 := Aside0.mk hv
              clear hv h34 h92
              go_wp2_with fail
              go_roundg (p.length - i)
              case measure => have := HI.out; have := HLT.out; omega
              case rel => exact ⟨i + 1, f - 1, ⟨by have h1 := HI.out; have h3 := HLT.out; omega⟩, ⟨by rw [HV2.out, show f - 1 + 1 = f by have h1 := HI.out; have h3 := HLT.out; omega]⟩, HM5⟩
      · have ht : ((i : Int) == (p.length : Int)) = true := beq_iff_eq.2 (by have := HI.out; omega)
        rw [List.getElem?_eq_none (by omega)] at hv
        have HV2 := Aside0.mk hv
        clear hv
        go_wp2_with fail
        go_quiet (fail)
        simp only [Exit.then]
        apply_assumption
        have HM4 := Aside0.mk (HM.out.drewN nq)
        go_wp2_with fail
        refine (fail_calls W _ g P cP p i l d HM4.out).mono ?_
        rintro e w5 ⟨he_, rfl⟩
        unfold stopE at he_
        subst he_
        go_wp2_with fail
        refine ⟨rfl, ?_⟩
        rw [HV2.out]
        exact ⟨(fun h => by cases h), fun _ => ⟨rfl, HM4.out.bel⟩⟩

  · rw [if_neg hc] at hV hw
    have HV := Aside0.mk hV
    have HW := Aside0.mk hw
    clear hV hw hc hT h
    go_enter Try.func24, Try.ntmps24
    go_wp2_with fail
    go_step3
    go_wp2_with fail
    refine HW.out.mono ?_
    rintro e w2 hp
    obtain ⟨he_, hb_⟩ := hp.2 rfl
    have HB6 := Aside0.mk hb_
    clear hp hb_
    unfold stopE at he_
    subst he_
    go_wp2_with fail
    refine ⟨rfl, ?_⟩
    rw [HV.out]
    exact ⟨(fun h => by cases h), fun _ => ⟨rfl, HB6.out⟩⟩
end
end Go.Proofs.Ytdgdnccpginclaa.JTx
