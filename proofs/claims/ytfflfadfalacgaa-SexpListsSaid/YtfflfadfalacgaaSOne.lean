/- Proved: the program's reader of layer 9: one and list, by one induction; the text has at most 100000 bytes. -/
import Derived.Test.YtfflfadfalacgaaSTx
namespace Go.Proofs.Ytfflfadfalacgaa.SOne
open Go.RowKit Go.Proofs.YtfflfadfalacgaaW.PrintWords Go.Proofs.YtfflfadfalacgaaW.PrintLast Go.Proofs.YtfflfadfalacgaaW.PrintMore
open Go.Proofs.Ytfflfadfalacgaa.SMem hiding Tok
open Go.Proofs.Ytfflfadfalacgaa.SPlain Go.Proofs.Ytfflfadfalacgaa.SRef Go.Proofs.Ytfflfadfalacgaa.SRd Go.Proofs.Ytfflfadfalacgaa.SLib Go.Proofs.Ytfflfadfalacgaa.SParse Go.Proofs.Ytfflfadfalacgaa.SBl Go.Proofs.Ytfflfadfalacgaa.SQu Go.Proofs.Ytfflfadfalacgaa.STx
set_option linter.unusedVariables false
set_option linter.unusedSimpArgs false
set_option maxHeartbeats 8000000
set_option maxRecDepth 100000
theorem at_ix : ∀ n : Nat, n < 256 → ((decide (32 < (n : Int)) && decide ((n : Int) ≠ 127) && ! inB [40, 41, 34, 39, 96, 44, 59] (n : Int)) = isAtom n) := by decide +kernel
theorem atom2_calls (b : Int) (w : World) (h0 : 0 ≤ b) (h1 : b ≤ 255) : Calls Try.prog 25 #[.int .u8 b] w fun e w' => e = .returned (.bool (isAtom b)) ∧ w = w' := by
  have := at_ix b.toNat (by omega)
  rw [Int.toNat_of_nonneg h0] at this
  rw [← this]
  exact atom_calls b w h0 h1
def OnePost (W : World) (g : Nat) (pv : Value) (o : Out) (e : Ending) (w' : World) : Prop :=
  match o with
  | .ok b l => e = .returned (.tuple #[]) ∧ RS w' W.heap.size g pv b l ∧ Below W.heap.size W w'
  | .stop x a => e = stopE x a ∧ Below W.heap.size W w'
def OneC (W : World) (g : Nat) (P : Option Addr) (cP : Nat) (p : List Int) (f : Nat) : Prop :=
  ∀ (w : World) (d a : Nat) (l : List (Int × Int × Int)), RS w W.heap.size g (.slice P p.length cP) a l → Below W.heap.size W w → a ≤ p.length → l.length ≤ a → d ≤ 512 → 3 * (p.length - a) + 1 ≤ f →
    Calls Try.prog 16 #[.pointer (some ⟨g, 0, none⟩), .int .i64 (d : Int)] w (OnePost W g (.slice P p.length cP) (oneP p f d a l))
def ListC (W : World) (g : Nat) (P : Option Addr) (cP : Nat) (p : List Int) (f : Nat) : Prop :=
  ∀ (w : World) (d a : Nat) (l : List (Int × Int × Int)), RS w W.heap.size g (.slice P p.length cP) a l → Below W.heap.size W w → a < p.length → l.length ≤ a → d ≤ 512 → 3 * (p.length - a) ≤ f →
    Calls Try.prog 23 #[.pointer (some ⟨g, 0, none⟩), .int .i64 (d : Int)] w (OnePost W g (.slice P p.length cP) (listP p f d a l))
theorem getQ {p : List Int} {i : Nat} (h : i < p.length) {x : Int} (hx : p.getD i 0 = x) : p[i]? = some x := by
  rw [List.getD_eq_getElem?_getD, List.getElem?_eq_getElem h] at hx
  rw [List.getElem?_eq_getElem h, ← hx]; rfl
theorem one_calls (W : World) (g : Nat) (P : Option Addr) (cP : Nat) (p : List Int) (f : Nat) (hT : Txt W P cP p) (hL : ListC W g P cP p f) : OneC W g P cP p (f + 1) := by
  intro w d a l h hb ha hl hd hf
  have HL := Aside0.mk hL
  obtain ⟨V, hV⟩ : ∃ V, V = oneP p (f + 1) d a l := ⟨_, rfl⟩
  rw [← hV]
  have HT := Aside0.mk hT
  have HM := Aside0.mk h
  have HB := Aside0.mk hb
  have HA := Aside0.mk (And.intro ha hl)
  have HF := Aside0.mk hf
  have HQ := Aside0.mk (SSim.quotes_spec p (p.length + 1) a l ha (by omega) hl)
  unfold oneP at hV
  simp only at hV
  have hqc := quotes_calls W w g P cP p a l hT h hb ha hl
  generalize quotesP p (p.length + 1) a l = q at hV HQ hqc
  obtain ⟨k, l2⟩ := q
  simp only at hV HQ hqc
  have HQC := Aside0.mk hqc
  have HV := Aside0.mk hV
  have hn := HT.out.n
  clear hL hV hT h hb ha hl hf hqc
  have hk := HQ.out.2.1
  go_enter Try.func16, Try.ntmps16
  go_wp2_with fail
  refine HQC.out.mono ?_
  rintro e w2 ⟨rfl, hm_, hb_⟩
  have HM2 := Aside0.mk hm_
  have HB2 := Aside0.mk hb_
  clear hm_ hb_ HM HB HQC
  have c0 := HM2.out.c0
  have c1 := HM2.out.c1
  have hk1 : (k : Int) ≤ 100000 := by omega
  by_cases hlt : k < p.length
  · have HLT := Aside0.mk hlt
    have ht : ((k : Int) == (p.length : Int)) = false := beq_eq_false_iff_ne.2 (by omega)
    obtain ⟨ad, ea, hx⟩ := at_nat HT.out.c k hlt
    cases ea
    replace hx := (HB2.out.cell (World.block_lt_of_cell? W _ hx)).trans hx
    have hbx := HT.out.b (p.getD k 0) (by rw [List.getD_eq_getElem?_getD, List.getElem?_eq_getElem hlt]; simp)
    generalize hcv : p.getD k 0 = x at hx hbx
    have HX := Aside0.mk (getQ hlt hcv)
    have hv := HV.out
    rw [HX.out] at hv
    simp only at hv
    clear hcv
    go_wp2_with fail
    go_quiet (fail)
    simp only [Exit.then]
    apply_assumption
    have HM3 := Aside0.mk (rs_drewN HM2.out nq)
    have HB3 := Aside0.mk (below_then HB2.out HB2.out.size (pw_below_drewN (Below.refl _ _) nq))
    have hx2 : (w2.drewN nq).cell? (ad.add k) = some (.int .u8 x) := hx
    clear c0 c1 HM2 HB2 hx
    generalize w2.drewN nq = w3 at HM3 HB3 hx2
    have c0 := HM3.out.c0
    have c1 := HM3.out.c1
    have p0 : (0 : Int) ≤ (k : Int) := by omega
    have p1 : (k : Int) < (p.length : Int) := by omega
    go_wp2_with fail
    go_quiet (fail)
    simp only [Exit.then]
    apply_assumption
    have HM4 := Aside0.mk (rs_drewN HM3.out nq)
    have HB4 := Aside0.mk (below_then HB3.out HB3.out.size (pw_below_drewN (Below.refl _ _) nq))
    clear c0 c1 HM3 HB3 hx2
    generalize w3.drewN nq = w4 at HM4 HB4
    by_cases h40 : x = 40
    · rw [if_pos h40] at hv
      have e40 : (x == 40) = true := beq_iff_eq.2 h40
      have HV2 := Aside0.mk hv
      clear hv h40
      go_wp2_with fail
      refine (HL.out _ d k l2 HM4.out HB4.out HLT.out HQ.out.2.2.1 hd (by have := HF.out; have := HQ.out.1; omega)).mono ?_
      rintro e w5 hpost
      rw [← HV2.out] at hpost
      clear HV2
      cases V with
      | ok b l' =>
        obtain ⟨rfl, hm_, hb_⟩ := hpost
        have HM5 := Aside0.mk hm_
        have HB5 := Aside0.mk hb_
        clear hm_ hb_
        go_wp2_with fail
        go_end0
        exact ⟨rfl, HM5.out, HB5.out⟩
      | stop y b =>
        obtain ⟨he_, hb_⟩ := hpost
        have HB5 := Aside0.mk hb_
        unfold stopE at he_
        subst he_
        clear hb_
        go_wp2_with fail
        exact ⟨rfl, rfl, HB5.out⟩
    · rw [if_neg h40] at hv
      have e40 : (x == 40) = false := beq_eq_false_iff_ne.2 h40
      by_cases h34 : x = 34
      · rw [if_pos h34] at hv
        have e34 : (x == 34) = true := beq_iff_eq.2 h34
        obtain ⟨r, hr⟩ : ∃ r, r = textP p p.length (k + 1) := ⟨_, rfl⟩
        rw [← hr] at hv
        have HR := Aside0.mk hr
        have HV2 := Aside0.mk hv
        clear hv h34 h40 hr
        go_wp2_with fail
        refine (text_calls W _ g (some ad) cP p k l2 HT.out HM4.out HB4.out HLT.out HQ.out.2.2.1).mono ?_
        rintro e w5 hpost
        rw [← HR.out] at hpost
        obtain ⟨t1, t2, t3⟩ := hpost
        have HB5 := Aside0.mk t3
        cases r with
        | none =>
          have he_ := t2 rfl
          unfold stopE at he_
          subst he_
          clear t1 t2 t3
          go_wp2_with fail
          refine ⟨rfl, ?_⟩
          rw [HV2.out]
          exact ⟨rfl, HB5.out⟩
        | some b =>
          obtain ⟨he_, hm_⟩ := t1 b rfl
          have HM5 := Aside0.mk hm_
          subst he_
          clear t1 t2 t3 hm_
          go_wp2_with fail
          go_end0
          rw [HV2.out]
          exact ⟨rfl, HM5.out, HB5.out⟩
      · rw [if_neg h34] at hv
        have e34 : (x == 34) = false := beq_eq_false_iff_ne.2 h34
        have hac := atom2_calls x
        by_cases hA : isAtom x = true
        · rw [hA] at hac hv
          have HAC := Aside0.mk (fun w => hac w hbx.1 hbx.2)
          clear hac
          by_cases h64 : x = 64
          · have e64 : (x != 64) = false := by rw [h64]; rfl
            rw [if_neg (by rw [h64]; decide)] at hv
            have HV2 := Aside0.mk hv
            clear hv h40 h34 h64
            go_wp2_with (first | (go_at_call 25; refine (HAC.out _).mono ?_; rintro e w_ ⟨rfl, rfl⟩))
            refine (fail_calls _ W.heap.size g _ _ l2 HM4.out).mono ?_
            rintro e w5 ⟨he_, rfl⟩
            unfold stopE at he_
            subst he_
            go_wp2_with fail
            refine ⟨rfl, ?_⟩
            rw [HV2.out]
            exact ⟨rfl, HB4.out⟩
          · have e64 : (x != 64) = true := by rw [bne_iff_ne]; exact h64
            rw [if_pos (by rw [e64]; rfl)] at hv
            have HV2 := Aside0.mk hv
            have HHA := Aside0.mk hA
            clear hv h40 h34 h64 hA
            go_wp2_with (first | (go_at_call 25; refine (HAC.out _).mono ?_; rintro e w_ ⟨rfl, rfl⟩))
            obtain ⟨N, hN⟩ : ∃ N, N = ((p.drop k).takeWhile isAtom).length := ⟨_, rfl⟩
            rw [← hN] at HV2
            have HN := Aside0.mk (show N = 1 + ((p.drop (k + 1)).takeWhile isAtom).length by rw [hN, SSim.drop_cons HX.out, List.takeWhile_cons_of_pos HHA.out, List.length_cons]; omega)
            clear hN hbx HAC
            go_loopg [5] (p.length - k) (fun kq v5 w' => ∃ j : Nat, v5 = .int .i64 (j : Int) ∧ Aside0 (j + kq = p.length - k + 1 ∧ 1 ≤ j ∧ k + j ≤ p.length) ∧ Aside0 (N = j + ((p.drop (k + j)).takeWhile isAtom).length) ∧ Aside0 (RS w' W.heap.size g (.slice (some ad) p.length cP) k l2) ∧ Aside0 (Below W.heap.size W w'))
            case atStart => exact ⟨1, rfl, ⟨by have := HLT.out; omega⟩, HN, HM4, HB4⟩
            case round =>
              clear HM4 HB4 HN
              obtain ⟨j, rfl, HJ, HN, HM, HB⟩ := hrel
              have c0 := HM.out.c0
              have c1 := HM.out.c1
              have hj1 : (j : Int) ≤ 100000 := by have := HJ.out; omega
              have fin : N = j → True := fun _ => trivial
              have hnj : ∀ w' : World, RS w' W.heap.size g (.slice (some ad) p.length cP) k l2 → Below W.heap.size W w' → N = j →
                  Calls Try.prog 26 #[.pointer (some ⟨g, 0, none⟩), .int .u8 5, .int .i64 (j : Int)] w' fun e w'' => e = .returned (.tuple #[]) ∧ OnePost W g (.slice (some ad) p.length cP) V (.returned (.tuple #[])) w'' := by
                intro w' h1 h2 h3
                refine (take_calls W w' g (.slice (some ad) p.length cP) (k : Int) l2 5 (j : Int) h1 h2 (by have := HQ.out; omega) (by omega) (by omega) (by omega) (by omega)).mono ?_
                rintro e w'' ⟨rfl, hm_, hb_⟩
                refine ⟨rfl, ?_⟩
                rw [HV2.out]
                refine ⟨rfl, ?_, hb_⟩
                rw [show (k : Int) + (j : Int) = ((k + N : Nat) : Int) by omega, ← h3] at hm_
                exact hm_
              have HNJ := Aside0.mk hnj
              clear hnj fin
              by_cases hlt2 : k + j < p.length
              · have HLT2 := Aside0.mk hlt2
                have hlt3 : decide ((k : Int) + (j : Int) < (p.length : Int)) = true := decide_eq_true (by omega)
                have q0 : (0 : Int) ≤ (k : Int) + (j : Int) := by omega
                have q1 : (k : Int) + (j : Int) < (p.length : Int) := by omega
                have qw : IntKind.i64.wrap ((k : Int) + (j : Int)) = (k : Int) + (j : Int) := IntWalk.i64_in _ (by omega)
                have qt : ((k : Int) + (j : Int)).toNat = k + j := by omega
                obtain ⟨ad2, ea, hx⟩ := at_nat HT.out.c (k + j) hlt2
                cases ea
                replace hx := (HB.out.cell (World.block_lt_of_cell? W _ hx)).trans hx
                have hbx := HT.out.b (p.getD (k + j) 0) (by rw [List.getD_eq_getElem?_getD, List.getElem?_eq_getElem hlt2]; simp)
                generalize hcv : p.getD (k + j) 0 = y at hx hbx
                have HY := Aside0.mk (getQ hlt2 hcv)
                have hac := atom2_calls y
                clear hcv hlt2
                by_cases hA : isAtom y = true
                · rw [hA] at hac
                  have HAC := Aside0.mk (fun w => hac w hbx.1 hbx.2)
                  have HA2 := Aside0.mk hA
                  clear hac hA
                  go_wp2_with fail
                  go_quiet ((go_at_call 25; exact Calls.quiet_of_same ((HAC.out _).mono fun _ _ h => ⟨h.1, h.2.symm⟩)))
                  simp only [Exit.then]
                  apply_assumption
                  clear qw qt
                  go_wp2
                  go_roundg (p.length - k - j)
                  case measure => have := HJ.out; have := HLT2.out; omega
                  case rel => exact ⟨j + 1, by go_num, ⟨by have := HJ.out; have := HLT2.out; omega⟩, ⟨by rw [HN.out, SSim.drop_cons HY.out, List.takeWhile_cons_of_pos HA2.out, List.length_cons, show k + (j + 1) = k + j + 1 from rfl]; omega⟩, ⟨rs_drewN HM.out nq⟩, ⟨HB.out.trans (pw_below_drewN (Below.refl _ _) nq)⟩⟩
                · have hA' : isAtom y = false := by simpa using hA
                  rw [hA'] at hac
                  have HAC := Aside0.mk (fun w => hac w hbx.1 hbx.2)
                  have HA2 := Aside0.mk hA
                  clear hac hA
                  have HNE := Aside0.mk (show N = j by rw [HN.out, SSim.drop_cons HY.out, List.takeWhile_cons_of_neg HA2.out]; rfl)
                  go_wp2_with fail
                  go_quiet ((go_at_call 25; exact Calls.quiet_of_same ((HAC.out _).mono fun _ _ h => ⟨h.1, h.2.symm⟩)))
                  simp only [Exit.then]
                  apply_assumption
                  clear qw qt
                  go_wp2_with fail
                  refine (HNJ.out _ (rs_drewN HM.out nq) (HB.out.trans (pw_below_drewN (Below.refl _ _) nq)) HNE.out).mono ?_
                  rintro e w5 ⟨rfl, hp_⟩
                  have HP := Aside0.mk hp_
                  clear hp_
                  go_wp2_with fail
                  go_end0
                  exact HP.out
              · have hlt3 : decide ((k : Int) + (j : Int) < (p.length : Int)) = false := decide_eq_false (by omega)
                have hlt4 : decide (k + j < p.length) = false := decide_eq_false hlt2
                have qw : IntKind.i64.wrap ((k : Int) + (j : Int)) = (k : Int) + (j : Int) := IntWalk.i64_in _ (by omega)
                have HNE := Aside0.mk (show N = j by rw [HN.out, List.drop_of_length_le (by omega)]; rfl)
                go_wp2_with fail
                go_quiet (fail)
                simp only [Exit.then]
                apply_assumption
                clear qw
                go_wp2_with fail
                refine (HNJ.out _ (rs_drewN HM.out nq) (HB.out.trans (pw_below_drewN (Below.refl _ _) nq)) HNE.out).mono ?_
                rintro e w5 ⟨rfl, hp_⟩
                have HP := Aside0.mk hp_
                clear hp_
                go_wp2_with fail
                go_end0
                exact HP.out
        · have hA' : isAtom x = false := by simpa using hA
          rw [hA'] at hac hv
          rw [if_neg (by simp)] at hv
          have HAC := Aside0.mk (fun w => hac w hbx.1 hbx.2)
          have HV2 := Aside0.mk hv
          clear hac hv h40 h34 hA
          go_wp2_with (first | (go_at_call 25; refine (HAC.out _).mono ?_; rintro e w_ ⟨rfl, rfl⟩))
          refine (fail_calls _ W.heap.size g _ _ l2 HM4.out).mono ?_
          rintro e w5 ⟨he_, rfl⟩
          unfold stopE at he_
          subst he_
          go_wp2_with fail
          refine ⟨rfl, ?_⟩
          rw [HV2.out]
          exact ⟨rfl, HB4.out⟩
  · have ht : ((k : Int) == (p.length : Int)) = true := beq_iff_eq.2 (by omega)
    have hv := HV.out
    rw [List.getElem?_eq_none (by omega)] at hv
    have HV2 := Aside0.mk hv
    clear hv
    go_wp2_with fail
    go_quiet (fail)
    simp only [Exit.then]
    apply_assumption
    go_wp2_with fail
    refine (fail_calls _ W.heap.size g _ _ l2 (rs_drewN HM2.out nq)).mono ?_
    rintro e w5 ⟨he_, rfl⟩
    unfold stopE at he_
    subst he_
    go_wp2_with fail
    refine ⟨rfl, ?_⟩
    rw [HV2.out]
    exact ⟨rfl, HB2.out.trans (pw_below_drewN (Below.refl _ _) nq)⟩
theorem list_calls (W : World) (g : Nat) (P : Option Addr) (cP : Nat) (p : List Int) (F : Nat) (hT : Txt W P cP p) (hO : ∀ f, f < F → OneC W g P cP p f) : ListC W g P cP p F := by
  intro w d a l h hb ha hl hd hf
  obtain ⟨f, rfl⟩ : ∃ f, F = f + 1 := ⟨F - 1, by omega⟩
  have HO := Aside0.mk hO
  obtain ⟨V, hV⟩ : ∃ V, V = listP p (f + 1) d a l := ⟨_, rfl⟩
  rw [← hV]
  have HT := Aside0.mk hT
  have HM := Aside0.mk h
  have HB := Aside0.mk hb
  have HA := Aside0.mk (And.intro ha hl)
  have HF := Aside0.mk hf
  unfold listP at hV
  have hn := HT.out.n
  have c1 := HM.out.c1
  have haa : (a : Int) ≤ 100000 := by omega
  clear hO hT h hb ha hl hf
  by_cases h512 : d = 512
  · rw [if_pos h512] at hV
    have e512 : ((d : Int) == 512) = true := beq_iff_eq.2 (by omega)
    have HV := Aside0.mk hV
    clear hV h512
    have hp : ∀ W : World, (Instr.panic (.iface 40 (.agg #[.int .i64 6, .int .i64 (a : Int)]))).run Try.prog W = .halt (.panic (.iface 40 (.agg #[.int .i64 6, .int .i64 (a : Int)]))) W := fun _ => rfl
    go_enter Try.func23, Try.ntmps23
    go_wp2
    refine ⟨rfl, ?_⟩
    rw [HV.out]
    exact ⟨rfl, HB.out⟩
  · rw [if_neg h512] at hV
    have e512 : ((d : Int) == 512) = false := beq_eq_false_iff_ne.2 (by omega)
    have HV := Aside0.mk hV
    have HD := Aside0.mk (show d + 1 ≤ 512 by omega)
    clear hV h512 c1
    go_enter Try.func23, Try.ntmps23
    go_wp2_with fail
    refine (take_calls W _ g (.slice P p.length cP) (a : Int) l 1 1 HM.out HB.out (by have := HA.out; omega) (by omega) (by omega) (by omega) (by omega)).mono ?_
    rintro e w2 ⟨rfl, hm_, hb_⟩
    rw [show (a : Int) + 1 = ((a + 1 : Nat) : Int) by omega] at hm_
    have HM2 := Aside0.mk hm_
    have HB2 := Aside0.mk hb_
    clear hm_ hb_ HM HB
    go_wp2_with fail
    go_loopg [] (p.length - a) (fun kq w' => ∃ (i f' : Nat) (l' : List (Int × Int × Int)), Aside0 (i + kq = p.length + 1 ∧ i ≤ p.length ∧ l'.length ≤ i ∧ 3 * (p.length - i) + 2 ≤ f' + 1 ∧ f' < f + 1) ∧ Aside0 (V = restP p (f' + 1) d i l') ∧ Aside0 (RS w' W.heap.size g (.slice P p.length cP) i l') ∧ Aside0 (Below W.heap.size W w'))
    case atStart => exact ⟨a + 1, f - 1, _, ⟨by have := HA.out; have := HF.out; rw [List.length_append, List.length_cons, List.length_nil]; omega⟩, ⟨by rw [HV.out, show f - 1 + 1 = f by have := HA.out; have := HF.out; omega]⟩, HM2, HB2⟩
    case round =>
      clear HM2 HB2 HV
      obtain ⟨i, f', l', HI, HV, HM, HB⟩ := hrel
      have HS := Aside0.mk (And.intro (SSim.skip_le p i HI.out.2.1) (SSim.skip_ge p i))
      have hv := HV.out
      unfold restP at hv
      simp only at hv
      have hbl := blanks_calls W wr g P cP p i l' HT.out.c HT.out.b HT.out.n HM.out HB.out HI.out.2.1
      generalize skip p i = k at hbl HS hv
      have HBL := Aside0.mk hbl
      have HVV := Aside0.mk hv
      clear hbl hv
      have hk1 : (k : Int) ≤ 100000 := by have := HS.out; omega
      go_wp2_with fail
      refine HBL.out.mono ?_
      rintro e w2 ⟨rfl, hm_, hb_⟩
      have HM2 := Aside0.mk hm_
      have HB2 := Aside0.mk hb_
      clear hm_ hb_ HM HB HBL
      have c0 := HM2.out.c0
      have c1 := HM2.out.c1
      by_cases hlt : k < p.length
      · have HLT := Aside0.mk hlt
        have ht : ((k : Int) == (p.length : Int)) = false := beq_eq_false_iff_ne.2 (by omega)
        obtain ⟨ad, ea, hx⟩ := at_nat HT.out.c k hlt
        cases ea
        replace hx := (HB2.out.cell (World.block_lt_of_cell? W _ hx)).trans hx
        have hbx := HT.out.b (p.getD k 0) (by rw [List.getD_eq_getElem?_getD, List.getElem?_eq_getElem hlt]; simp)
        generalize hcv : p.getD k 0 = x at hx hbx
        have hv := HVV.out
        rw [getQ hlt hcv] at hv
        simp only at hv
        have HVW := Aside0.mk hv
        clear hcv hv
        go_wp2_with fail
        go_quiet (fail)
        simp only [Exit.then]
        apply_assumption
        have hv := HVW.out
        have HM3 := Aside0.mk (rs_drewN HM2.out nq)
        have HB3 := Aside0.mk (below_then HB2.out HB2.out.size (pw_below_drewN (Below.refl _ _) nq))
        have hx2 : (w2.drewN nq).cell? (ad.add k) = some (.int .u8 x) := hx
        clear c0 c1 HM2 HB2 hx
        generalize w2.drewN nq = w3 at HM3 HB3 hx2
        have c0 := HM3.out.c0
        have c1 := HM3.out.c1
        have p0 : (0 : Int) ≤ (k : Int) := by omega
        have p1 : (k : Int) < (p.length : Int) := by omega
        by_cases h41 : x = 41
        · rw [if_pos h41] at hv
          have e41 : (x == 41) = true := beq_iff_eq.2 h41
          have HV2 := Aside0.mk hv
          clear hv h41
          go_wp2_with fail
          go_quiet (fail)
          simp only [Exit.then]
          apply_assumption
          go_wp2_with fail
          refine (take_calls W _ g (.slice (some ad) p.length cP) (k : Int) l' 2 1 (rs_drewN HM3.out nq) (HB3.out.trans (pw_below_drewN (Below.refl _ _) nq)) (by have := HI.out; omega) (by omega) (by omega) (by omega) (by omega)).mono ?_
          rintro e w5 ⟨rfl, hm_, hb_⟩
          rw [show (k : Int) + 1 = ((k + 1 : Nat) : Int) by omega] at hm_
          have HM5 := Aside0.mk hm_
          have HB5 := Aside0.mk hb_
          clear hm_ hb_
          go_wp2_with fail
          refine bodyPost_ret (results_none rfl _ _ _) rfl ?_
          rw [HV2.out]
          exact ⟨rfl, HM5.out, HB5.out⟩
        · rw [if_neg h41] at hv
          have e41 : (x == 41) = false := beq_eq_false_iff_ne.2 h41
          have HIP := Aside0.mk (((SSim.parse_spec p f').1 (d + 1) k l' (by omega) (by have := HI.out; have := HS.out; omega) (by have := HI.out; have := HS.out; omega)).2)
          obtain ⟨o, ho⟩ : ∃ o, o = oneP p f' (d + 1) k l' := ⟨_, rfl⟩
          rw [← ho] at hv HIP
          have HO1 := Aside0.mk ho
          have HV2 := Aside0.mk hv
          clear hv ho h41
          go_wp2_with fail
          go_quiet (fail)
          simp only [Exit.then]
          apply_assumption
          go_wp2_with fail
          have hone := HO.out f' HI.out.2.2.2.2 (w3.drewN nq) (d + 1) k l' (rs_drewN HM3.out nq) (HB3.out.trans (pw_below_drewN (Below.refl _ _) nq)) (by omega) (by have := HI.out; have := HS.out; omega) HD.out (by have := HI.out; have := HS.out; omega)
          rw [← HO1.out, show ((d + 1 : Nat) : Int) = (d : Int) + 1 by omega] at hone
          refine hone.mono ?_
          rintro e w5 hpost
          clear hone
          cases o with
          | ok b l'' =>
            obtain ⟨rfl, hm_, hb_⟩ := hpost
            have HM5 := Aside0.mk hm_
            have HB5 := Aside0.mk hb_
            clear hm_ hb_
            go_wp2_with fail
            go_roundg (p.length + 1 - b)
            case measure => have h1 := HI.out; have h2 := HS.out; have h3 := HIP.out.1; have h4 := HIP.out.2.1; omega
            case rel => exact ⟨b, f' - 1, l'', ⟨by have h1 := HI.out; have h2 := HS.out; have h3 := HIP.out.1; have h4 := HIP.out.2.1; have h5 := HIP.out.2.2; have h6 := HLT.out; omega⟩, ⟨by rw [HV2.out, show f' - 1 + 1 = f' by have h1 := HI.out; have h2 := HS.out; have h6 := HLT.out; omega]⟩, HM5, HB5⟩
          | stop y b =>
            obtain ⟨he_, hb_⟩ := hpost
            have HB5 := Aside0.mk hb_
            unfold stopE at he_
            subst he_
            clear hb_
            go_wp2_with fail
            refine ⟨rfl, ?_⟩
            rw [HV2.out]
            exact ⟨rfl, HB5.out⟩
      · have ht : ((k : Int) == (p.length : Int)) = true := beq_iff_eq.2 (by have := HS.out; omega)
        have hv := HVV.out
        rw [List.getElem?_eq_none (by omega)] at hv
        have HV2 := Aside0.mk hv
        clear hv
        go_wp2_with fail
        go_quiet (fail)
        simp only [Exit.then]
        apply_assumption
        go_wp2_with fail
        refine (fail_calls _ W.heap.size g _ _ l' (rs_drewN HM2.out nq)).mono ?_
        rintro e w5 ⟨he_, rfl⟩
        unfold stopE at he_
        subst he_
        go_wp2_with fail
        refine ⟨rfl, ?_⟩
        rw [HV2.out]
        exact ⟨rfl, HB2.out.trans (pw_below_drewN (Below.refl _ _) nq)⟩
theorem both_calls (W : World) (g : Nat) (P : Option Addr) (cP : Nat) (p : List Int) (hT : Txt W P cP p) : ∀ f, OneC W g P cP p f := by
  intro f
  induction f using Nat.strongRecOn with
  | _ f ih =>
    cases f with
    | zero => intro w d a l h hb ha hl hd hf; omega
    | succ f => exact one_calls W g P cP p f hT (list_calls W g P cP p f hT (fun f' hf' => ih f' (by omega)))
end Go.Proofs.Ytfflfadfalacgaa.SOne
