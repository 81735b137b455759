/- Proved: the program's reader of layer 8: escape; the text has at most 100000 bytes. -/
import Derived.Test.YtdgdnccpginclaaJPu
import Derived.Deep.CutRange
namespace Go.Proofs.Ytdgdnccpginclaa.JPv
open Go.RowKit Go.Proofs.YtdgdnccpginclaaW.PrintWords Go.Proofs.YtdgdnccpginclaaW.PrintLast Go.Proofs.YtdgdnccpginclaaW.PrintMore
open Go.Proofs.Ytdgdnccpginclaa.JDefs Go.Proofs.Ytdgdnccpginclaa.JSim Go.Proofs.Ytdgdnccpginclaa.JBase Go.Proofs.Ytdgdnccpginclaa.JRd Go.Proofs.Ytdgdnccpginclaa.JPt Go.Proofs.Ytdgdnccpginclaa.JPu
set_option linter.unusedVariables false
set_option linter.unusedSimpArgs false
set_option maxHeartbeats 8000000
set_option maxRecDepth 100000

theorem ibx (L : List UInt8) (s : ByteArray) (hs : s.data.toList = L) (x : Int) (r : Int) (hr : r = Lib.indexByte L (UInt8.ofNat x.toNat)) (w : World) : Calls Try.prog 28 #[.string s, .int .u8 x] w fun e w' => e = .returned (.int .i64 r) ∧ w = w' := by
  have := ib28_calls s x w
  rw [hs] at this
  rw [hr]
  exact this
theorem hex_at (p : List Int) (k i : Nat) : hexP p (k + 1) i = if hexB (sees p i) = true then hexP p k (i + 1) else (false, i) := rfl
theorem hex_nz {x : Int} (h : hexB x = true) : x ≠ 0 := by rintro rfl; exact absurd h (by decide)
section
variable (W w : World) (g : Nat) (P : Option Addr) (cP : Nat) (p : List Int) (a : Nat) (l : List (Int × Int × Int)) (d : Nat)
theorem escape_calls (hT : Txt W P cP p) (h : St W w g P cP p a l d) :
    Calls Try.prog 36 #[.pointer (some ⟨g, 0, none⟩)] w (BP W g P cP p l d (escP p a)) := by
  obtain ⟨V, hV⟩ : ∃ V, V = escP p a := ⟨_, rfl⟩
  rw [← hV]
  unfold escP at hV
  have HT := Aside0.mk hT
  have HM := Aside0.mk h
  have hn := hT.n
  have hle := h.le
  obtain ⟨hx0, hx1⟩ := sees_byte W P cP p a hT
  have hltx : sees p a ≠ 0 → a < p.length := by
    intro hne
    rcases at_or p a hle with ⟨c, hc, hdr, hse, hlt⟩ | ⟨heq, hn0, hdr, hse⟩
    · exact hlt
    · exact absurd hse hne
  obtain ⟨x, hx⟩ : ∃ x, x = sees p a := ⟨_, rfl⟩
  rw [← hx] at hV hx0 hx1 hltx
  have HX := Aside0.mk hx
  obtain ⟨r, hr⟩ : ∃ r, r = Lib.indexByte [34, 92, 47, 98, 102, 110, 114, 116, 117] (UInt8.ofNat x.toNat) := ⟨_, rfl⟩
  have HI := Aside0.mk (fun w => ibx [34, 92, 47, 98, 102, 110, 114, 116, 117] ⟨#[34, 92, 47, 98, 102, 110, 114, 116, 117]⟩ rfl x r hr w)
  have hix := esc_ix x.toNat (by omega)
  rw [Int.toNat_of_nonneg hx0, ← hr] at hix
  have ha1 : (a : Int) ≤ 100000 := by omega
  clear hT h hx hr
  by_cases hz : x = 0
  · subst hz
    rw [if_neg (by decide), if_neg (by decide)] at hV
    have HV2 := Aside0.mk hV
    clear hV hix hltx
    go_enter Try.func36, Try.ntmps36
    go_wp2_with fail
    refine (sees_st W _ g P cP p a l d HT.out HM.out).mono ?_
    rintro e w2 ⟨rfl, hs_⟩
    rw [← HX.out]
    have HM2 := Aside0.mk hs_
    clear hs_ HM
    go_wp2_with fail
    refine (fail_calls W _ g P cP p a l d HM2.out).mono ?_
    rintro e w5 ⟨he_, rfl⟩
    unfold stopE at he_
    subst he_
    go_wp2_with fail
    refine ⟨rfl, ?_⟩
    rw [HV2.out]
    exact ⟨(fun h => by cases h), fun _ => ⟨rfl, HM2.out.bel⟩⟩

  · have hlt := hltx hz
    have z0 : (x == 0) = false := beq_eq_false_iff_ne.2 hz
    by_cases h117 : x = 117
    · rw [if_pos h117] at hV
      have HV := Aside0.mk hV
      rw [h117] at hix
      have hr0 : 0 ≤ r := by have : decide (0 ≤ r) = true := by rw [← hix]; decide
                             exact of_decide_eq_true this
      have t1 : decide (r < 0) = false := decide_eq_false (by omega)
      have t2 : (x != 117) = false := by rw [h117]; rfl
      have HLT := Aside0.mk hlt
      clear hV hix hltx hz h117 hlt
      go_enter Try.func36, Try.ntmps36
      go_wp2_with fail
      refine (sees_st W _ g P cP p a l d HT.out HM.out).mono ?_
      rintro e w2 ⟨rfl, hs_⟩
      rw [← HX.out]
      have HM2 := Aside0.mk hs_
      have c1 := hs_.c1
      have f1 := hs_.fz 1
      have HM3 := Aside0.mk (hs_.setAt (a + 1) (by have := HLT.out; omega) ((a : Int) + 1) (by omega))
      clear hs_ HM
      go_wp2_with (first | (go_at_call 28; refine (HI.out _).mono ?_; rintro e w_ ⟨rfl, rfl⟩))
      clear HI c1 f1 HM2
      go_loopg [3, 24] 4 (fun kq v3 v24 w' => ∃ j : Nat, v24 = .int .i64 (j : Int) ∧ Aside0 (j + kq = 4) ∧ Aside0 (V = hexP p kq (a + 1 + j)) ∧ Aside0 (St W w' g P cP p (a + 1 + j) l d))
      case atStart => exact ⟨0, rfl, ⟨rfl⟩, HV, HM3⟩
      case round =>
        clear HM3 HV
        obtain ⟨j, rfl, HJ, HV, HM⟩ := hrel
        have hj1 : (j : Int) ≤ 4 := by have := HJ.out; omega
        by_cases hj4 : j < 4
        · have hj5 : decide ((j : Int) < 4) = true := decide_eq_true (by omega)
          have HJ4 := Aside0.mk hj4
          obtain ⟨gk', rfl⟩ : ∃ k', gk = k' + 1 := ⟨gk - 1, by have := HJ.out; omega⟩
          have hv := HV.out
          rw [hex_at] at hv
          obtain ⟨hy0, hy1⟩ := sees_byte W P cP p (a + 1 + j) HT.out
          have hle2 := HM.out.le
          have hlty : sees p (a + 1 + j) ≠ 0 → a + 1 + j < p.length := by
            intro hne
            rcases at_or p (a + 1 + j) hle2 with ⟨c, hc, hdr, hse, hlt⟩ | ⟨heq, hn0, hdr, hse⟩
            · exact hlt
            · exact absurd hse hne
          have hsees := fun w1 h => sees_st W w1 g P cP p (a + 1 + j) l d HT.out h
          generalize sees p (a + 1 + j) = y at hv hy0 hy1 hlty hsees
          have HSE := Aside0.mk hsees
          obtain ⟨r, hr⟩ : ∃ r, r = Lib.indexByte [48, 49, 50, 51, 52, 53, 54, 55, 56, 57, 97, 98, 99, 100, 101, 102, 65, 66, 67, 68, 69, 70] (UInt8.ofNat y.toNat) := ⟨_, rfl⟩
          have HI := Aside0.mk (fun w => ibx [48, 49, 50, 51, 52, 53, 54, 55, 56, 57, 97, 98, 99, 100, 101, 102, 65, 66, 67, 68, 69, 70] ⟨#[48, 49, 50, 51, 52, 53, 54, 55, 56, 57, 97, 98, 99, 100, 101, 102, 65, 66, 67, 68, 69, 70]⟩ rfl y r hr w)
          have hix := hex_ix y.toNat (by omega)
          rw [Int.toNat_of_nonneg hy0, ← hr] at hix
          have hi2 : ((a + 1 + j : Nat) : Int) ≤ 100010 := by omega
          clear hr hsees hj4
          by_cases hh : hexB y = true
          · have hnz := hex_nz hh
            have hlt2 := hlty hnz
            rw [if_pos hh] at hv
            have HV2 := Aside0.mk hv
            have z1 : (y == 0) = false := beq_eq_false_iff_ne.2 hnz
            have t3 : decide (r < 0) = false := decide_eq_false (by rw [hh] at hix; have := of_decide_eq_true hix.symm; omega)
            have HLT2 := Aside0.mk hlt2
            clear hv hix hlty hh hnz hlt2 z0 t1 t2
            go_wp2_with fail
            refine (HSE.out _ HM.out).mono ?_
            rintro e w4 ⟨rfl, hs_⟩
            have c1 := hs_.c1
            have f1 := hs_.fz 1
            have HM4 := Aside0.mk (hs_.setAt (a + 1 + j + 1) (by have := HLT2.out; omega) ((a : Int) + 1 + (j : Int) + 1) (by omega))
            clear hs_ HM HSE
            go_wp2_with (first | (go_at_call 28; refine (HI.out _).mono ?_; rintro e w_ ⟨rfl, rfl⟩))
            go_roundg gk'
            case measure => omega
            case rel => exact ⟨j + 1, by go_num, ⟨by have := HJ.out; omega⟩, ⟨by rw [HV2.out]; congr 1⟩, HM4⟩
          · rw [if_neg hh] at hv
            have HV2 := Aside0.mk hv
            have hh' : hexB y = false := by simpa using hh
            have t3 : decide (r < 0) = true := decide_eq_true (by rw [hh'] at hix; have := of_decide_eq_false hix.symm; omega)
            clear hv hix hlty hh hh' z0 t1 t2
            by_cases hz1 : y = 0
            · subst hz1
              go_wp2_with fail
              refine (HSE.out _ HM.out).mono ?_
              rintro e w4 ⟨rfl, hs_⟩
              have HM4 := Aside0.mk hs_
              clear hs_ HM HSE
              go_wp2_with fail
              refine (fail_calls W _ g P cP p (a + 1 + j) l d HM4.out).mono ?_
              rintro e w5 ⟨he_, rfl⟩
              unfold stopE at he_
              subst he_
              go_wp2_with fail
              refine ⟨rfl, ?_⟩
              rw [HV2.out]
              exact ⟨(fun h => by cases h), fun _ => ⟨rfl, HM4.out.bel⟩⟩

            · have z1 : (y == 0) = false := beq_eq_false_iff_ne.2 hz1
              clear hz1
              go_wp2_with fail
              refine (HSE.out _ HM.out).mono ?_
              rintro e w4 ⟨rfl, hs_⟩
              have HM4 := Aside0.mk hs_
              clear hs_ HM HSE
              go_wp2_with (first | (go_at_call 28; refine (HI.out _).mono ?_; rintro e w_ ⟨rfl, rfl⟩))
              refine (fail_calls W _ g P cP p (a + 1 + j) l d HM4.out).mono ?_
              rintro e w5 ⟨he_, rfl⟩
              unfold stopE at he_
              subst he_
              go_wp2_with fail
              refine ⟨rfl, ?_⟩
              rw [HV2.out]
              exact ⟨(fun h => by cases h), fun _ => ⟨rfl, HM4.out.bel⟩⟩

        · have hj5 : decide ((j : Int) < 4) = false := decide_eq_false (by omega)
          have e4 : j = 4 := by have := HJ.out; omega
          subst e4
          obtain rfl : gk = 0 := by have := HJ.out; omega
          go_wp2
          go_end0
          rw [HV.out]
          exact ⟨fun _ => ⟨rfl, HM.out⟩, fun h => by cases h⟩
    · rw [if_neg h117] at hV
      have n117 : (x == 117) = false := beq_eq_false_iff_ne.2 h117
      rw [n117, Bool.or_false] at hix
      by_cases hE : escB x = true
      · rw [if_pos hE] at hV
        have HV2 := Aside0.mk hV
        have t1 : decide (r < 0) = false := decide_eq_false (by rw [hE] at hix; have := of_decide_eq_true hix.symm; omega)
        have t2 : (x != 117) = true := by rw [bne_iff_ne]; exact h117
        have HLT := Aside0.mk hlt
        clear hV hix hltx hz h117 hlt hE n117
        go_enter Try.func36, Try.ntmps36
        go_wp2_with fail
        refine (sees_st W _ g P cP p a l d HT.out HM.out).mono ?_
        rintro e w2 ⟨rfl, hs_⟩
        rw [← HX.out]
        have c1 := hs_.c1
        have f1 := hs_.fz 1
        have HM3 := Aside0.mk (hs_.setAt (a + 1) (by have := HLT.out; omega) ((a : Int) + 1) (by omega))
        clear hs_ HM
        go_wp2_with (first | (go_at_call 28; refine (HI.out _).mono ?_; rintro e w_ ⟨rfl, rfl⟩))
        refine bodyPost_ret (results_none rfl _ _ _) rfl ?_
        rw [HV2.out]
        exact ⟨fun _ => ⟨rfl, HM3.out⟩, fun h => by cases h⟩
      · rw [if_neg hE] at hV
        have HV2 := Aside0.mk hV
        have hE' : escB x = false := by simpa using hE
        have t1 : decide (r < 0) = true := decide_eq_true (by rw [hE'] at hix; have := of_decide_eq_false hix.symm; omega)
        clear hV hix hltx hz h117 hlt hE hE' n117
        go_enter Try.func36, Try.ntmps36
        go_wp2_with fail
        refine (sees_st W _ g P cP p a l d HT.out HM.out).mono ?_
        rintro e w2 ⟨rfl, hs_⟩
        rw [← HX.out]
        have HM2 := Aside0.mk hs_
        clear hs_ HM
        go_wp2_with (first | (go_at_call 28; refine (HI.out _).mono ?_; rintro e w_ ⟨rfl, rfl⟩))
        refine (fail_calls W _ g P cP p a l d HM2.out).mono ?_
        rintro e w5 ⟨he_, rfl⟩
        unfold stopE at he_
        subst he_
        go_wp2_with fail
        refine ⟨rfl, ?_⟩
        rw [HV2.out]
        exact ⟨(fun h => by cases h), fun _ => ⟨rfl, HM2.out.bel⟩⟩

end
end Go.Proofs.Ytdgdnccpginclaa.JPv
