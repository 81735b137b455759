/- Proved: the program's reader of layer 8: value and pair, out of list's contract; the text has at most 100000 bytes. -/
import Derived.Test.YtdgdnccpginclaaJTx
import Derived.Test.YtdgdnccpginclaaJNu
import Derived.Deep.CutRange
namespace Go.Proofs.Ytdgdnccpginclaa.JVal
open Go.RowKit Go.Proofs.YtdgdnccpginclaaW.PrintWords Go.Proofs.YtdgdnccpginclaaW.PrintLast Go.Proofs.YtdgdnccpginclaaW.PrintMore
open Go.Proofs.Ytdgdnccpginclaa.JDefs Go.Proofs.Ytdgdnccpginclaa.JSim Go.Proofs.Ytdgdnccpginclaa.JSimb Go.Proofs.Ytdgdnccpginclaa.JSimc Go.Proofs.Ytdgdnccpginclaa.JBase Go.Proofs.Ytdgdnccpginclaa.JRd Go.Proofs.Ytdgdnccpginclaa.JPt Go.Proofs.Ytdgdnccpginclaa.JPu Go.Proofs.Ytdgdnccpginclaa.JPv Go.Proofs.Ytdgdnccpginclaa.JNu Go.Proofs.Ytdgdnccpginclaa.JTx
set_option linter.unusedVariables false
set_option linter.unusedSimpArgs false
set_option maxHeartbeats 8000000
set_option maxRecDepth 100000

theorem number_ge (p : List Int) (a : Nat) (h : a ≤ p.length) : a ≤ (numberP p a).2 ∧ (numberP p a).2 ≤ p.length := by
  unfold numberP
  split
  · next hs =>
    have hl := sees_lt p a h (by omega)
    obtain ⟨h1, h2, _⟩ := numR_int (p := p) (S := []) (f := 0) (l := []) (i := a + 1) (by omega)
    omega
  · obtain ⟨h1, h2, _⟩ := numR_int (p := p) (S := []) (f := 0) (l := []) (i := a) h
    omega
theorem word_ge (p w : List Int) (a : Nat) (hw : w ≠ []) (h : a ≤ p.length) : a ≤ (wordP p w a).2 ∧ (wordP p w a).2 ≤ p.length := by
  obtain ⟨h1, h2, _⟩ := word_spec p [] 0 [] w a hw h
  exact ⟨h1, h2⟩
theorem text_ge (p : List Int) (a : Nat) (h : a ≤ p.length) : a ≤ (textP p a).2 ∧ (textP p a).2 ≤ p.length := by
  unfold textP
  split
  · next hc =>
    have hlt := (List.getElem?_eq_some_iff.1 hc).1
    obtain ⟨h1, h2, _⟩ := signs_spec p [] 0 false [] p.length (a + 1) (by omega) (by omega)
    omega
  · simp only; omega
theorem text_gt (p : List Int) (a : Nat) (h : a ≤ p.length) (ht : (textP p a).1 = true) : a < (textP p a).2 := by
  unfold textP at ht ⊢
  split at ht
  · next hc =>
    rw [if_pos hc]
    have hlt := (List.getElem?_eq_some_iff.1 hc).1
    obtain ⟨h1, h2, _⟩ := signs_spec p [] 0 false [] p.length (a + 1) (by omega) (by omega)
    omega
  · exact absurd ht (by simp)
theorem sees_some {p : List Int} {k : Nat} {c : Int} (h : sees p k = c) (hc : c ≠ 0) : p[k]? = some c := by
  rcases Nat.lt_or_ge k p.length with hlt | hge
  · exact getQ hlt h
  · rw [sees_end hge] at h; exact absurd h.symm hc
theorem sees_none {p : List Int} {k : Nat} {c : Int} (h : sees p k ≠ c) : ¬ p[k]? = some c := fun hh => h (sees_at hh)
def fnOf (b : Bool) : Nat := if b then 23 else 15
def ValC (W : World) (g : Nat) (P : Option Addr) (cP : Nat) (p : List Int) (f : Nat) : Prop :=
  ∀ (w : World) (d a : Nat) (l : List (Int × Int × Int)), St W w g P cP p a l d → l.length ≤ a → d ≤ 512 → 3 * (p.length - a) + 1 ≤ f →
    Calls Try.prog 15 #[.pointer (some ⟨g, 0, none⟩)] w (OutP W g P cP p d (valueP p f d a l))
def ListC (W : World) (g : Nat) (P : Option Addr) (cP : Nat) (p : List Int) (f : Nat) : Prop :=
  ∀ (b : Bool) (w : World) (d a : Nat) (l : List (Int × Int × Int)), St W w g P cP p a l d → p[a]? = some (top b) → l.length ≤ a → d ≤ 512 → 3 * (p.length - a) ≤ f →
    Calls Try.prog 22 #[.pointer (some ⟨g, 0, none⟩), .int .u8 (top b), .int .u8 (clo b), .func (.func (fnOf b)) #[.pointer (some ⟨g, 0, none⟩)] #[]] w (OutP W g P cP p d (listP p f d b a l))
def ItemC (W : World) (g : Nat) (P : Option Addr) (cP : Nat) (p : List Int) (f : Nat) : Prop :=
  ∀ (b : Bool) (w : World) (d a : Nat) (l : List (Int × Int × Int)), St W w g P cP p a l d → l.length ≤ a → d ≤ 512 → 3 * (p.length - a) + 2 ≤ f →
    Calls Try.prog (fnOf b) #[.pointer (some ⟨g, 0, none⟩)] w (OutP W g P cP p d (itemP p f d b a l))

section
variable (W : World) (g : Nat) (P : Option Addr) (cP : Nat) (p : List Int)
set_option maxHeartbeats 16000000 in
theorem value_calls (f : Nat) (hT : Txt W P cP p) (hL : ListC W g P cP p f) : ValC W g P cP p (f + 1) := by
  intro w d a l h hl hd hf
  have hmf : ∀ (fn : Fn) (first cap : Array Value) (w : World), (Instr.makeFunc fn first cap).run Try.prog w = .ok (.func fn first cap) w := fun _ _ _ _ => rfl
  obtain ⟨V, hV⟩ : ∃ V, V = valueP p (f + 1) d a l := ⟨_, rfl⟩
  rw [← hV]
  have HL := Aside0.mk hL
  have HT := Aside0.mk hT
  have hn := hT.n
  have hle := h.le
  have hbl := blanks_calls W w g P cP p a l d hT h
  have hk := JSim.skip_le p a hle
  have hk2 := JSim.skip_ge p a
  unfold valueP at hV
  simp only at hV
  generalize skip p a = k at hV hbl hk hk2
  have HF := Aside0.mk hf
  have HLL := Aside0.mk (show l.length ≤ k by omega)
  have hll : l.length ≤ 100000 := by omega
  have HBL := Aside0.mk hbl
  have HSX := Aside0.mk (fun h : sees p k = 123 ∨ sees p k = 91 => sees_some (p := p) (k := k) rfl (by omega))
  have HSC := sees_c W g P cP p l d hT k
  obtain ⟨hx0, hx1⟩ := sees_byte W P cP p k hT
  generalize sees p k = x at hV HSC hx0 hx1 HSX
  have HSC := Aside0.mk HSC
  have HV := Aside0.mk hV
  have hk3 : (k : Int) ≤ 100000 := by omega
  clear hL hT h hbl hV hf hl
  go_enter Try.func15, Try.ntmps15
  go_wp2_with fail
  refine HBL.out.mono ?_
  rintro e w1 ⟨rfl, hs_⟩
  have HM1 := Aside0.mk hs_
  have c1 := hs_.c1
  clear hs_ HBL
  go_wp2_with fail
  refine (HSC.out _ HM1.out).mono ?_
  rintro e w2 ⟨rfl, hs_⟩
  have HM2 := Aside0.mk hs_
  clear hs_ HM1 c1 HSC
  have hv := HV.out
  by_cases h123 : x = 123
  · rw [if_pos h123] at hv
    have HV2 := Aside0.mk hv
    have t1 : (x == 123) = true := beq_iff_eq.2 h123
    have HTOP := Aside0.mk (show p[k]? = some (top true) by rw [HSX.out (.inl h123), h123]; rfl)
    clear hv h123 HV
    go_wp2_with fail
    refine (HL.out true _ d k l HM2.out HTOP.out HLL.out hd (by have := HF.out; omega)).mono ?_
    rintro e w5 hp
    rw [← HV2.out] at hp
    obtain ⟨o, ho⟩ : ∃ o, o = V := ⟨_, rfl⟩
    have HO := Aside0.mk ho
    rw [← ho] at hp
    clear ho HV2
    cases o with
    | ok b_ l_ =>
      obtain ⟨rfl, hs_⟩ := hp
      have HMo := Aside0.mk hs_
      clear hs_
      go_wp2_with fail
      first | go_end0 | refine bodyPost_ret (results_none rfl _ _ _) rfl ?_
      rw [← HO.out]
      exact ⟨rfl, HMo.out⟩
    | stop x_ b_ =>
      obtain ⟨he_, hb_⟩ := hp
      have HBo := Aside0.mk hb_
      clear hb_
      unfold stopE at he_
      subst he_
      go_wp2_with fail
      refine ⟨rfl, ?_⟩
      rw [← HO.out]
      exact ⟨rfl, HBo.out⟩
  · rw [if_neg h123] at hv
    have t1 : (x == 123) = false := beq_eq_false_iff_ne.2 h123
    by_cases h91 : x = 91
    · rw [if_pos h91] at hv
      have HV2 := Aside0.mk hv
      have t2 : (x == 91) = true := beq_iff_eq.2 h91
      have HTOP := Aside0.mk (show p[k]? = some (top false) by rw [HSX.out (.inr h91), h91]; rfl)
      clear hv h91 HV h123
      go_wp2_with fail
      refine (HL.out false _ d k l HM2.out HTOP.out HLL.out hd (by have := HF.out; omega)).mono ?_
      rintro e w5 hp
      rw [← HV2.out] at hp
      obtain ⟨o, ho⟩ : ∃ o, o = V := ⟨_, rfl⟩
      have HO := Aside0.mk ho
      rw [← ho] at hp
      clear ho HV2
      cases o with
      | ok b_ l_ =>
        obtain ⟨rfl, hs_⟩ := hp
        have HMo := Aside0.mk hs_
        clear hs_
        go_wp2_with fail
        first | go_end0 | refine bodyPost_ret (results_none rfl _ _ _) rfl ?_
        rw [← HO.out]
        exact ⟨rfl, HMo.out⟩
      | stop x_ b_ =>
        obtain ⟨he_, hb_⟩ := hp
        have HBo := Aside0.mk hb_
        clear hb_
        unfold stopE at he_
        subst he_
        go_wp2_with fail
        refine ⟨rfl, ?_⟩
        rw [← HO.out]
        exact ⟨rfl, HBo.out⟩
    · rw [if_neg h91] at hv
      have t2 : (x == 91) = false := beq_eq_false_iff_ne.2 h91
      by_cases h34 : x = 34
      · rw [if_pos h34] at hv
        have t3 : (x == 34) = true := beq_iff_eq.2 h34
        have HRC := Aside0.mk (fun w1 h => text_calls W w1 g P cP p k l d HT.out h)
        have HGE := Aside0.mk (text_ge p k hk)
        generalize textP p k = r at hv HRC HGE
        have HV2 := Aside0.mk hv
        clear hv h34 HV h123 h91
        obtain ⟨b_, j⟩ := r
        go_wp2_with fail
        refine (HRC.out _ HM2.out).mono ?_
        rintro e w5 hp
        cases b_ with
        | true =>
          obtain ⟨rfl, hs_⟩ := hp.1 rfl
          have HM5 := Aside0.mk hs_
          have hjl := hs_.le
          clear hp hs_
          go_wp2_with fail
          refine (token_calls W _ g P cP p j l d 5 k hn HM5.out HGE.out.1 (by omega)).mono ?_
          rintro e w6 ⟨rfl, hs_⟩
          have HM6 := Aside0.mk hs_
          clear hs_
          go_wp2_with fail
          go_end0
          rw [HV2.out]
          exact ⟨rfl, HM6.out⟩
        | false =>
          obtain ⟨he_, hb_⟩ := hp.2 rfl
          have HB5 := Aside0.mk hb_
          clear hp hb_
          unfold stopE at he_
          subst he_
          go_wp2_with fail
          refine ⟨rfl, ?_⟩
          rw [HV2.out]
          exact ⟨rfl, HB5.out⟩
      · rw [if_neg h34] at hv
        have t3 : (x == 34) = false := beq_eq_false_iff_ne.2 h34
        by_cases hnum : x = 45 ∨ dig x = true
        · rw [if_pos hnum] at hv
          have HRC := Aside0.mk (fun w1 h => number_calls W w1 g P cP p k l d HT.out h)
          have HGE := Aside0.mk (number_ge p k hk)
          generalize numberP p k = r at hv HRC HGE
          have HV2 := Aside0.mk hv
          have hor : (x == 45) = true ∨ (x == 45) = false ∧ decide (48 ≤ x) = true ∧ decide (x ≤ 57) = true := by
            by_cases h1 : x = 45
            · exact .inl (beq_iff_eq.2 h1)
            · have := (dig_iff x).1 (hnum.resolve_left h1)
              exact .inr ⟨beq_eq_false_iff_ne.2 h1, decide_eq_true this.1, decide_eq_true this.2⟩
          clear hv h34 HV h123 h91 hnum
          rcases hor with t4 | ⟨t4, t5, t6⟩
          all_goals
            obtain ⟨b_, j⟩ := r
            go_wp2_with fail
            refine (HRC.out _ HM2.out).mono ?_
            rintro e w5 hp
            cases b_ with
            | true =>
              obtain ⟨rfl, hs_⟩ := hp.1 rfl
              have HM5 := Aside0.mk hs_
              have hjl := hs_.le
              clear hp hs_
              go_wp2_with fail
              refine (token_calls W _ g P cP p j l d 5 k hn HM5.out HGE.out.1 (by omega)).mono ?_
              rintro e w6 ⟨rfl, hs_⟩
              have HM6 := Aside0.mk hs_
              clear hs_
              go_wp2_with fail
              go_end0
              rw [HV2.out]
              exact ⟨rfl, HM6.out⟩
            | false =>
              obtain ⟨he_, hb_⟩ := hp.2 rfl
              have HB5 := Aside0.mk hb_
              clear hp hb_
              unfold stopE at he_
              subst he_
              go_wp2_with fail
              refine ⟨rfl, ?_⟩
              rw [HV2.out]
              exact ⟨rfl, HB5.out⟩
        · rw [if_neg hnum] at hv
          have t4 : (x == 45) = false := beq_eq_false_iff_ne.2 (fun h => hnum (.inl h))
          have hnd : ¬ (48 ≤ x ∧ x ≤ 57) := fun h => hnum (.inr ((dig_iff x).2 h))
          have hor : decide (48 ≤ x) = false ∨ decide (48 ≤ x) = true ∧ decide (x ≤ 57) = false := by
            by_cases h1 : 48 ≤ x
            · exact .inr ⟨decide_eq_true h1, decide_eq_false (by omega)⟩
            · exact .inl (decide_eq_false h1)
          by_cases h116 : x = 116
          · subst h116
            rw [if_pos rfl] at hv
            have HRC := Aside0.mk (fun w1 h => word_calls W w1 g P cP p k l d ⟨#[116, 114, 117, 101]⟩ (by decide) HT.out h)
            have eb : bytesOf ⟨#[116, 114, 117, 101]⟩ = [116, 114, 117, 101] := rfl
            rw [eb] at HRC
            have HGE := Aside0.mk (word_ge p [116, 114, 117, 101] k (by simp) hk)
            generalize wordP p [116, 114, 117, 101] k = r at hv HRC HGE
            have HV2 := Aside0.mk hv
            clear hv h34 HV h123 h91 hnum hor hnd eb
            obtain ⟨b_, j⟩ := r
            go_wp2_with fail
            refine (HRC.out _ HM2.out).mono ?_
            rintro e w5 hp
            cases b_ with
            | true =>
              obtain ⟨rfl, hs_⟩ := hp.1 rfl
              have HM5 := Aside0.mk hs_
              have hjl := hs_.le
              clear hp hs_
              go_wp2_with fail
              refine (token_calls W _ g P cP p j l d 5 k hn HM5.out HGE.out.1 (by omega)).mono ?_
              rintro e w6 ⟨rfl, hs_⟩
              have HM6 := Aside0.mk hs_
              clear hs_
              go_wp2_with fail
              go_end0
              rw [HV2.out]
              exact ⟨rfl, HM6.out⟩
            | false =>
              obtain ⟨he_, hb_⟩ := hp.2 rfl
              have HB5 := Aside0.mk hb_
              clear hp hb_
              unfold stopE at he_
              subst he_
              go_wp2_with fail
              refine ⟨rfl, ?_⟩
              rw [HV2.out]
              exact ⟨rfl, HB5.out⟩
          · rw [if_neg h116] at hv
            by_cases h102 : x = 102
            · subst h102
              rw [if_pos rfl] at hv
              have HRC := Aside0.mk (fun w1 h => word_calls W w1 g P cP p k l d ⟨#[102, 97, 108, 115, 101]⟩ (by decide) HT.out h)
              have eb : bytesOf ⟨#[102, 97, 108, 115, 101]⟩ = [102, 97, 108, 115, 101] := rfl
              rw [eb] at HRC
              have HGE := Aside0.mk (word_ge p [102, 97, 108, 115, 101] k (by simp) hk)
              generalize wordP p [102, 97, 108, 115, 101] k = r at hv HRC HGE
              have HV2 := Aside0.mk hv
              clear hv h34 HV h123 h91 hnum hor hnd eb h116
              obtain ⟨b_, j⟩ := r
              go_wp2_with fail
              refine (HRC.out _ HM2.out).mono ?_
              rintro e w5 hp
              cases b_ with
              | true =>
                obtain ⟨rfl, hs_⟩ := hp.1 rfl
                have HM5 := Aside0.mk hs_
                have hjl := hs_.le
                clear hp hs_
                go_wp2_with fail
                refine (token_calls W _ g P cP p j l d 5 k hn HM5.out HGE.out.1 (by omega)).mono ?_
                rintro e w6 ⟨rfl, hs_⟩
                have HM6 := Aside0.mk hs_
                clear hs_
                go_wp2_with fail
                go_end0
                rw [HV2.out]
                exact ⟨rfl, HM6.out⟩
              | false =>
                obtain ⟨he_, hb_⟩ := hp.2 rfl
                have HB5 := Aside0.mk hb_
                clear hp hb_
                unfold stopE at he_
                subst he_
                go_wp2_with fail
                refine ⟨rfl, ?_⟩
                rw [HV2.out]
                exact ⟨rfl, HB5.out⟩
            · rw [if_neg h102] at hv
              by_cases h110 : x = 110
              · subst h110
                rw [if_pos rfl] at hv
                have HRC := Aside0.mk (fun w1 h => word_calls W w1 g P cP p k l d ⟨#[110, 117, 108, 108]⟩ (by decide) HT.out h)
                have eb : bytesOf ⟨#[110, 117, 108, 108]⟩ = [110, 117, 108, 108] := rfl
                rw [eb] at HRC
                have HGE := Aside0.mk (word_ge p [110, 117, 108, 108] k (by simp) hk)
                generalize wordP p [110, 117, 108, 108] k = r at hv HRC HGE
                have HV2 := Aside0.mk hv
                clear hv h34 HV h123 h91 hnum hor hnd eb h116 h102
                obtain ⟨b_, j⟩ := r
                go_wp2_with fail
                refine (HRC.out _ HM2.out).mono ?_
                rintro e w5 hp
                cases b_ with
                | true =>
                  obtain ⟨rfl, hs_⟩ := hp.1 rfl
                  have HM5 := Aside0.mk hs_
                  have hjl := hs_.le
                  clear hp hs_
                  go_wp2_with fail
                  refine (token_calls W _ g P cP p j l d 5 k hn HM5.out HGE.out.1 (by omega)).mono ?_
                  rintro e w6 ⟨rfl, hs_⟩
                  have HM6 := Aside0.mk hs_
                  clear hs_
                  go_wp2_with fail
                  go_end0
                  rw [HV2.out]
                  exact ⟨rfl, HM6.out⟩
                | false =>
                  obtain ⟨he_, hb_⟩ := hp.2 rfl
                  have HB5 := Aside0.mk hb_
                  clear hp hb_
                  unfold stopE at he_
                  subst he_
                  go_wp2_with fail
                  refine ⟨rfl, ?_⟩
                  rw [HV2.out]
                  exact ⟨rfl, HB5.out⟩
              · rw [if_neg h110] at hv
                have HV2 := Aside0.mk hv
                have t7 : (x == 116) = false := beq_eq_false_iff_ne.2 h116
                have t8 : (x == 102) = false := beq_eq_false_iff_ne.2 h102
                have t9 : (x == 110) = false := beq_eq_false_iff_ne.2 h110
                clear hv h34 HV h123 h91 hnum hnd h116 h102 h110
                rcases hor with t5 | ⟨t5, t6⟩
                all_goals
                  go_wp2_with fail
                  refine (fail_calls W _ g P cP p k l d HM2.out).mono ?_
                  rintro e w5 ⟨he_, rfl⟩
                  unfold stopE at he_
                  subst he_
                  go_wp2_with fail
                  refine ⟨rfl, ?_⟩
                  rw [HV2.out]
                  exact ⟨rfl, HM2.out.bel⟩
set_option maxHeartbeats 16000000 in
theorem pair_calls (f : Nat) (hT : Txt W P cP p) (hV0 : ValC W g P cP p f) : ItemC W g P cP p (f + 1) := by
  intro b w d a l h hl hd hf
  cases b with
  | false =>
    have e : itemP p (f + 1) d false a l = valueP p f d a l := by unfold itemP; simp
    rw [e]
    exact hV0 w d a l h hl hd (by omega)
  | true =>
    show Calls Try.prog 23 _ _ _
    have HVC := Aside0.mk hV0
    obtain ⟨V, hV⟩ : ∃ V, V = itemP p (f + 1) d true a l := ⟨_, rfl⟩
    rw [← hV]
    have HT := Aside0.mk hT
    have hn := hT.n
    have hle := h.le
    have hbl := blanks_calls W w g P cP p a l d hT h
    have hk := JSim.skip_le p a hle
    have hk2 := JSim.skip_ge p a
    unfold itemP at hV
    simp only [if_true] at hV
    generalize skip p a = k at hV hbl hk hk2
    have HF := Aside0.mk hf
    have HLL := Aside0.mk (show l.length ≤ k by omega)
    have hll : l.length ≤ 100000 := by omega
    have HBL := Aside0.mk hbl
    have HRC := Aside0.mk (fun w1 h => text_calls W w1 g P cP p k l d hT h)
    have HGE := Aside0.mk (text_ge p k hk)
    have HGT := Aside0.mk (text_gt p k hk)
    generalize textP p k = r at hV HRC HGE HGT
    obtain ⟨b_, j⟩ := r
    have HV := Aside0.mk hV
    have hk3 : (k : Int) ≤ 100000 := by omega
    clear hV0 hT h hbl hV hf hl
    go_enter Try.func23, Try.ntmps23
    go_wp2_with fail
    refine HBL.out.mono ?_
    rintro e w1 ⟨rfl, hs_⟩
    have HM1 := Aside0.mk hs_
    have c1 := hs_.c1
    clear hs_ HBL
    go_wp2_with fail
    refine (HRC.out _ HM1.out).mono ?_
    rintro e w2 hp
    cases b_ with
    | false =>
      have hv := HV.out
      simp only [Bool.false_eq_true, if_false] at hv
      have HV2 := Aside0.mk hv
      obtain ⟨he_, hb_⟩ := hp.2 rfl
      have HB5 := Aside0.mk hb_
      clear hp hb_ hv
      unfold stopE at he_
      subst he_
      go_wp2_with fail
      refine ⟨rfl, ?_⟩
      rw [HV2.out]
      exact ⟨rfl, HB5.out⟩
    | true =>
      have hv := HV.out
      simp only [if_true] at hv
      obtain ⟨rfl, hs_⟩ := hp.1 rfl
      have HM2 := Aside0.mk hs_
      have hjl := hs_.le
      have hkj : k < j := HGT.out rfl
      have hkj2 := HLL.out
      -- what comes behind the name
      have hk4 := JSim.skip_le p j hjl
      have hk5 := JSim.skip_ge p j
      have HBJ := Aside0.mk (fun w1 l1 (h : St W w1 g P cP p j l1 d) => blanks_calls W w1 g P cP p j l1 d HT.out h)
      generalize skip p j = m at hv hk4 hk5 HBJ
      have HSX := Aside0.mk (fun h : sees p m = 58 => sees_some h (by omega))
      have HSN := Aside0.mk (fun h : sees p m ≠ 58 => sees_none h)
      generalize sees p m = x at hv HSX HSN
      have HV2 := Aside0.mk hv
      have HAR := Aside0.mk (show k < j ∧ j ≤ m ∧ m ≤ p.length ∧ l.length ≤ k from ⟨hkj, hk5, hk4, hkj2⟩)
      clear hp hs_ hv HM1 c1 HRC hkj hk4 hk5 hkj2
      go_wp2_with fail
      refine (token_calls W _ g P cP p j l d 5 k hn HM2.out (by have := HAR.out.1; omega) (by omega)).mono ?_
      rintro e w3 ⟨rfl, hs_⟩
      have HM3 := Aside0.mk hs_
      clear hs_ HM2
      go_wp2_with fail
      refine (HBJ.out _ _ HM3.out).mono ?_
      rintro e w4 ⟨rfl, hs_⟩
      have HM4 := Aside0.mk hs_
      clear hs_ HM3 HBJ
      obtain ⟨L, hL⟩ : ∃ L, L = l ++ [(5, (k : Int), (j : Int) - k)] := ⟨_, rfl⟩
      have hLl : L.length = l.length + 1 := by rw [hL]; simp
      rw [← hL] at HM4 HV2
      have HLl := Aside0.mk hLl
      clear hL hLl
      have hsg := sign_calls W w4 g P cP p m L d 4 58 HT.out HM4.out (by have := HLl.out; omega)
      by_cases hx : x = 58
      · rw [if_pos (HSX.out hx)] at hsg
        have hv := HV2.out
        rw [if_pos hx] at hv
        have HSG := Aside0.mk hsg
        have HV3 := Aside0.mk hv
        have hml : m < p.length := (List.getElem?_eq_some_iff.1 (HSX.out hx)).1
        have HML := Aside0.mk hml
        clear hsg hv hx hml
        go_wp2_with fail
        refine HSG.out.mono ?_
        rintro e w5 hp
        obtain ⟨rfl, hs_⟩ := hp
        have HM5 := Aside0.mk hs_
        clear hs_ HSG
        go_wp2_with fail
        refine (HVC.out _ d (m + 1) _ HM5.out (by have h1 := HLl.out; have h2 := HAR.out; rw [List.length_append, List.length_cons, List.length_nil]; omega) hd (by have h1 := HF.out; have h2 := HAR.out; have h3 := HML.out; omega)).mono ?_
        rintro e w6 hp
        rw [← HV3.out] at hp
        obtain ⟨o, ho⟩ : ∃ o, o = V := ⟨_, rfl⟩
        have HO := Aside0.mk ho
        rw [← ho] at hp
        clear ho HV2 HV3
        cases o with
        | ok b_ l_ =>
          obtain ⟨rfl, hs_⟩ := hp
          have HMo := Aside0.mk hs_
          clear hs_
          go_wp2_with fail
          first | go_end0 | refine bodyPost_ret (results_none rfl _ _ _) rfl ?_
          rw [← HO.out]
          exact ⟨rfl, HMo.out⟩
        | stop x_ b_ =>
          obtain ⟨he_, hb_⟩ := hp
          have HBo := Aside0.mk hb_
          clear hb_
          unfold stopE at he_
          subst he_
          go_wp2_with fail
          refine ⟨rfl, ?_⟩
          rw [← HO.out]
          exact ⟨rfl, HBo.out⟩
      · rw [if_neg (HSN.out hx)] at hsg
        have hv := HV2.out
        rw [if_neg hx] at hv
        have HSG := Aside0.mk hsg
        have HV3 := Aside0.mk hv
        clear hsg hv hx
        go_wp2_with fail
        refine HSG.out.mono ?_
        rintro e w5 hp
        obtain ⟨he_, hb_⟩ := hp
        have HB5 := Aside0.mk hb_
        clear hb_
        unfold stopE at he_
        subst he_
        go_wp2_with fail
        refine ⟨rfl, ?_⟩
        rw [HV3.out]
        exact ⟨rfl, HB5.out⟩
end
end Go.Proofs.Ytdgdnccpginclaa.JVal
