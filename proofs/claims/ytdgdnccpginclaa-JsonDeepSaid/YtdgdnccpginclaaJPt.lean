/- Proved: the program's reader of layer 8: sign and digits; the text has at most 100000 bytes. -/
import Derived.Test.YtdgdnccpginclaaJRd
import Derived.Deep.CutRange
namespace Go.Proofs.Ytdgdnccpginclaa.JPt
open Go.RowKit Go.Proofs.YtdgdnccpginclaaW.PrintWords Go.Proofs.YtdgdnccpginclaaW.PrintLast Go.Proofs.YtdgdnccpginclaaW.PrintMore
open Go.Proofs.Ytdgdnccpginclaa.JDefs Go.Proofs.Ytdgdnccpginclaa.JSim Go.Proofs.Ytdgdnccpginclaa.JBase Go.Proofs.Ytdgdnccpginclaa.JRd
set_option linter.unusedVariables false
set_option linter.unusedSimpArgs false
set_option maxHeartbeats 8000000
set_option maxRecDepth 100000

section
variable (W w : World) (g : Nat) (P : Option Addr) (cP : Nat) (p : List Int) (a : Nat) (l : List (Int × Int × Int)) (d : Nat)
theorem sign_calls (k c : Int) (hT : Txt W P cP p) (h : St W w g P cP p a l d) (hl : l.length ≤ 1000000) :
    Calls Try.prog 34 #[.pointer (some ⟨g, 0, none⟩), .int .u8 k, .int .u8 c] w (OutP W g P cP p d (if p[a]? = some c then .ok (a + 1) (l ++ [(k, (a : Int), 1)]) else .stop 5 a)) := by
  obtain ⟨V, hV⟩ : ∃ V, V = (if p[a]? = some c then Out.ok (a + 1) (l ++ [(k, (a : Int), 1)]) else .stop 5 a) := ⟨_, rfl⟩
  rw [← hV]
  have hn := hT.n
  have hle := h.le
  have hw := want_calls W w g P cP p a l d c hT h
  by_cases hc : p[a]? = some c
  · rw [if_pos hc] at hV hw
    have HV := Aside0.mk hV
    have HW := Aside0.mk hw
    have hlt := (List.getElem?_eq_some_iff.1 hc).1
    clear hV hw hc hT h
    go_enter Try.func34, Try.ntmps34
    go_wp2_with fail
    refine HW.out.mono ?_
    rintro e w2 hp
    obtain ⟨he_, hs_⟩ := hp.1 rfl
    subst he_
    have HM := Aside0.mk hs_
    have c1 := hs_.c1
    clear hp hs_ HW
    have e1 : ((a + 1 : Nat) : Int) - 1 = (a : Int) := by omega
    have e2 : (a : Int) + 1 - 1 = (a : Int) := by omega
    have a1 : ((a + 1 : Nat) : Int) ≤ 100001 := by omega
    go_wp2_with fail
    refine (token_calls W _ g P cP p (a + 1) l d k a hn HM.out (by omega) hl).mono ?_
    rintro e w3 ⟨rfl, hs_⟩
    have HM3 := Aside0.mk hs_
    clear hs_
    go_wp2_with fail
    go_end0
    rw [HV.out]
    refine ⟨rfl, ?_⟩
    have := HM3.out
    rw [show ((a + 1 : Nat) : Int) - (a : Int) = 1 by omega] at this
    exact this
  · rw [if_neg hc] at hV hw
    have HV := Aside0.mk hV
    have HW := Aside0.mk hw
    clear hV hw hc hT h
    go_enter Try.func34, Try.ntmps34
    go_wp2_with fail
    refine HW.out.mono ?_
    rintro e w2 hp
    obtain ⟨he_, hb_⟩ := hp.2 rfl
    have HB := Aside0.mk hb_
    clear hp hb_ HW
    unfold stopE at he_
    subst he_
    go_wp2_with fail
    refine ⟨rfl, ?_⟩
    rw [HV.out]
    exact ⟨rfl, HB.out⟩
theorem digits_calls (hT : Txt W P cP p) (h : St W w g P cP p a l d) :
    Calls Try.prog 37 #[.pointer (some ⟨g, 0, none⟩)] w (BP W g P cP p l d (digitsP p a)) := by
  obtain ⟨V, hV⟩ : ∃ V, V = digitsP p a := ⟨_, rfl⟩
  rw [← hV]
  unfold digitsP at hV
  have HT := Aside0.mk hT
  have HM := Aside0.mk h
  have hn := hT.n
  have hle := h.le
  have hsb := sees_byte W P cP p a hT
  obtain ⟨x, hx⟩ : ∃ x, x = sees p a := ⟨_, rfl⟩
  rw [← hx] at hV hsb
  have HX := Aside0.mk hx
  clear hT h hx
  by_cases hd : dig x = true
  · have hd2 := (dig_iff x).1 hd
    rw [if_pos hd] at hV
    have HV := Aside0.mk hV
    have t1 : decide (x < 48) = false := decide_eq_false (by omega)
    have t2 : decide (57 < x) = false := decide_eq_false (by omega)
    clear hV hd hd2
    go_enter Try.func37, Try.ntmps37
    go_wp2_with fail
    refine (sees_st W _ g P cP p a l d HT.out HM.out).mono ?_
    rintro e w2 ⟨rfl, hs_⟩
    rw [← HX.out]
    have HM2 := Aside0.mk hs_
    clear hs_ HM
    go_wp2_with fail
    refine (sees_st W _ g P cP p a l d HT.out HM2.out).mono ?_
    rintro e w3 ⟨rfl, hs_⟩
    have HM3 := Aside0.mk hs_
    clear hs_ HM2
    go_wp2_with fail
    go_loopg [3] (p.length - a) (fun kq v3 w' => ∃ i : Nat, v3 = .int .u8 (sees p i) ∧ Aside0 (i + kq = p.length ∧ a ≤ i) ∧ Aside0 (V = (true, i + ((p.drop i).takeWhile dig).length)) ∧ Aside0 (St W w' g P cP p i l d))
    case atStart => exact ⟨a, rfl, ⟨by omega⟩, HV, HM3⟩
    case round =>
      clear HM3 HV
      obtain ⟨i, rfl, HI, HV, HM⟩ := hrel
      have hsb := sees_byte W P cP p i HT.out
      have hsi : ∀ y, sees p i = y → (p.drop i).takeWhile dig = if dig y = true then y :: (p.drop (i + 1)).takeWhile dig else [] := by
        intro y hy
        rcases at_or p i HM.out.le with ⟨c, hc, hdr, hse, hlt⟩ | ⟨heq, hn0, hdr, hse⟩
        · rw [hdr, ← hy, hse]
          by_cases hg : dig c = true
          · rw [List.takeWhile_cons_of_pos hg, if_pos hg]
          · rw [List.takeWhile_cons_of_neg hg, if_neg hg]
        · rw [hdr, ← hy, hse]; rfl
      have hend : ∀ y, sees p i = y → dig y = true → i < p.length := by
        intro y hy hg
        rcases at_or p i HM.out.le with ⟨c, hc, hdr, hse, hlt⟩ | ⟨heq, hn0, hdr, hse⟩
        · exact hlt
        · rw [← hy, hse] at hg; exact absurd hg (by decide)
      generalize hy : sees p i = y at hsb
      have hs2 := hsi y hy
      have he2 := hend y hy
      clear hsi hend
      have c1 := HM.out.c1
      have f1 := HM.out.fz 1
      have hi1 : (i : Int) ≤ 100000 := by have := HI.out; omega
      by_cases hd : dig y = true
      · have hd2 := (dig_iff y).1 hd
        have hlt := he2 hd
        rw [if_pos hd] at hs2
        have HS := Aside0.mk (show V = (true, i + 1 + ((p.drop (i + 1)).takeWhile dig).length) by rw [HV.out, hs2, List.length_cons]; congr 1; omega)
        have t1 : decide (48 ≤ y) = true := decide_eq_true hd2.1
        have t2 : decide (y ≤ 57) = true := decide_eq_true hd2.2
        have HLT := Aside0.mk hlt
        have HM4 := Aside0.mk (HM.out.setAt (i + 1) (by omega) ((i : Int) + 1) (by omega))
        clear hs2 he2 hy hd hd2 hlt
        go_wp2_with fail
        refine (sees_st W _ g P cP p (i + 1) l d HT.out HM4.out).mono ?_
        rintro e w4 ⟨rfl, hs_⟩
        have HM5 := Aside0.mk hs_
        clear hs_ HM4
        go_wp2_with fail
        go_roundg (p.length - (i + 1))
        case measure => have := HI.out; have := HLT.out; omega
        case rel => exact ⟨i + 1, rfl, ⟨by have := HI.out; have := HLT.out; omega⟩, HS, HM5⟩
      · rw [if_neg hd] at hs2
        have HS := Aside0.mk (show V = (true, i) by rw [HV.out, hs2]; rfl)
        have hnd : ¬ (48 ≤ y ∧ y ≤ 57) := fun h => hd ((dig_iff y).2 h)
        clear hs2 he2 hy hd
        by_cases h48 : 48 ≤ y
        · have t1 : decide (48 ≤ y) = true := decide_eq_true h48
          have t2 : decide (y ≤ 57) = false := decide_eq_false (by omega)
          clear hnd h48
          go_wp2
          go_end0
          rw [HS.out]
          exact ⟨fun _ => ⟨rfl, HM.out⟩, fun h => by cases h⟩
        · have t1 : decide (48 ≤ y) = false := decide_eq_false h48
          clear hnd h48
          go_wp2
          go_end0
          rw [HS.out]
          exact ⟨fun _ => ⟨rfl, HM.out⟩, fun h => by cases h⟩
  · have hnd : ¬ (48 ≤ x ∧ x ≤ 57) := fun h => hd ((dig_iff x).2 h)
    rw [if_neg hd] at hV
    have HV := Aside0.mk hV
    clear hV hd
    by_cases h48 : x < 48
    · have t1 : decide (x < 48) = true := decide_eq_true h48
      clear hnd h48
      go_enter Try.func37, Try.ntmps37
      go_wp2_with fail
      refine (sees_st W _ g P cP p a l d HT.out HM.out).mono ?_
      rintro e w2 ⟨rfl, hs_⟩
      rw [← HX.out]
      have HM2 := Aside0.mk hs_
      clear hs_ HM
      go_wp2_with fail
      refine (fail_calls W _ g P cP p a l d HM2.out).mono ?_
      rintro e w5 ⟨he_, rfl⟩
      unfold stopE at he_
      subst he_
      go_wp2_with fail
      refine ⟨rfl, ?_⟩
      rw [HV.out]
      exact ⟨(fun h => by cases h), fun _ => ⟨rfl, HM2.out.bel⟩⟩
    · have t1 : decide (x < 48) = false := decide_eq_false h48
      have t2 : decide (57 < x) = true := decide_eq_true (by omega)
      clear hnd h48
      go_enter Try.func37, Try.ntmps37
      go_wp2_with fail
      refine (sees_st W _ g P cP p a l d HT.out HM.out).mono ?_
      rintro e w2 ⟨rfl, hs_⟩
      rw [← HX.out]
      have HM2 := Aside0.mk hs_
      clear hs_ HM
      go_wp2_with fail
      refine (fail_calls W _ g P cP p a l d HM2.out).mono ?_
      rintro e w5 ⟨he_, rfl⟩
      unfold stopE at he_
      subst he_
      go_wp2_with fail
      refine ⟨rfl, ?_⟩
      rw [HV.out]
      exact ⟨(fun h => by cases h), fun _ => ⟨rfl, HM2.out.bel⟩⟩
end
end Go.Proofs.Ytdgdnccpginclaa.JPt
