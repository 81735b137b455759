/- Proved: the program's parser of layer 8 as a plain function answers what the reference's machine answers; no condition. -/
import Derived.Test.YtdgdnccpginclaaJSimb
namespace Go.Proofs.Ytdgdnccpginclaa.JSimc
open Go.Proofs.Ytdgdnccpginclaa.JDefs Go.Proofs.Ytdgdnccpginclaa.JSim Go.Proofs.Ytdgdnccpginclaa.JSimb
set_option linter.unusedVariables false
set_option linter.unusedSimpArgs false
theorem text_spec (p : List Int) (S : List Int) (nm : Bool) (l : List Tok) (a : Nat) (ha : a < p.length) (m : Mach) (hc : p[a]? = some 34) (hm : mfeed m 34 a = (⟨6, S, a, nm, [], 0, l⟩, 0)) :
    a < (textP p a).2 ∧ (textP p a).2 ≤ p.length ∧ mfin m (p.drop a) a = resB p (A (nst nm) S a l) (textP p a) := by
  unfold textP
  rw [if_pos hc, drop_cons hc, mfin_ok hm]
  obtain ⟨h1, h2, h3⟩ := signs_spec p S a nm l p.length (a + 1) (by omega) (by omega)
  exact ⟨by omega, h2, h3⟩
def res (p : List Int) (S : List Int) : Out → List Tok × Int × Int
  | .ok b l => mfin (mk 5 S l) (p.drop b) (b : Nat)
  | .stop e a => ([], (a : Int), e)
def post (p : List Int) (at_ : Nat) : Out → Prop
  | .ok b l => at_ < b ∧ b ≤ p.length ∧ l.length ≤ b
  | .stop e a => a ≤ p.length ∧ (e = 5 ∨ e = 6)
theorem post_mono {p : List Int} {a b : Nat} {o : Out} (h : post p b o) (hab : a ≤ b) : post p a o := by
  cases o with
  | ok x l => obtain ⟨h1, h2, h3⟩ := h; exact ⟨by omega, h2, h3⟩
  | stop e x => exact h
theorem atomO_spec (p S : List Int) (a : Nat) (l : List Tok) (r : Bool × Nat) (h1 : a < r.2 ∨ r.1 = false) (h2 : r.2 ≤ p.length) (hl : l.length ≤ a) :
    resB p (A 5 S a l) r = res p S (atomO r a l) ∧ post p a (atomO r a l) := by
  obtain ⟨b, x⟩ := r
  cases b with
  | true =>
    simp only at h1 h2
    refine ⟨rfl, ?_⟩
    show a < x ∧ x ≤ _ ∧ (l ++ _).length ≤ x
    simp only [List.length_append, List.length_cons, List.length_nil]
    have : a < x := by rcases h1 with h | h; exact h; cases h
    omega
  | false => exact ⟨rfl, h2, .inl rfl⟩
theorem begin_d (s : Int) (S : List Int) (l : List Tok) (c i : Int) : mbegin (mk s S l) c i = mbegin (mk 0 S l) c i ∨ (∃ m m', mbegin (mk s S l) c i = (m, 5) ∧ mbegin (mk 0 S l) c i = (m', 5)) ∨ (∃ m m', mbegin (mk s S l) c i = (m, 6) ∧ mbegin (mk 0 S l) c i = (m', 6)) := by
  unfold mbegin mone mk
  simp only
  by_cases a1 : c = 123 ∨ c = 91
  · simp only [if_pos a1]
    by_cases a2 : S.length = 512
    · simp only [if_pos a2]; exact .inr (.inr ⟨_, _, rfl, rfl⟩)
    · simp only [if_neg a2]
      exact .inl trivial
  · simp only [if_neg a1]
    by_cases b1 : c = 34
    · simp only [if_pos b1]; exact .inl trivial
    · simp only [if_neg b1]
      by_cases b2 : c = 45
      · simp only [if_pos b2]; exact .inl trivial
      · simp only [if_neg b2]
        by_cases b3 : c = 48
        · simp only [if_pos b3]; exact .inl trivial
        · simp only [if_neg b3]
          by_cases b4 : dig c = true
          · simp only [if_pos b4]; exact .inl trivial
          · simp only [if_neg b4]
            by_cases b5 : c = 116
            · simp only [if_pos b5]; exact .inl trivial
            · simp only [if_neg b5]
              by_cases b6 : c = 102
              · simp only [if_pos b6]; exact .inl trivial
              · simp only [if_neg b6]
                by_cases b7 : c = 110
                · simp only [if_pos b7]; exact .inl trivial
                · simp only [if_neg b7]; exact .inr (.inl ⟨_, _, rfl, rfl⟩)
theorem bst_mk (s : Int) (S : List Int) (l : List Tok) (c i : Int) : bst (mk s S l) c i = if s = 0 then mbegin (mk s S l) c i
  else if s = 1 then (if c = 93 then mnext (mk s S l) c i else mbegin (mk s S l) c i)
  else if s = 2 ∨ s = 3 then (if c = 125 ∧ s = 2 then mnext (mk s S l) c i else if c = 34 then (⟨6, S, i, true, [], 0, l⟩, 0) else (mk s S l, 5))
  else if s = 4 then (if c = 58 then (mk 0 S (l ++ [(4, i, 1)]), 0) else (mk s S l, 5))
  else mnext (mk s S l) c i := rfl
theorem feed0 (S : List Int) (l : List Tok) {c : Int} (hw : ws c = false) (i : Int) : mfeed (mk 0 S l) c i = mbegin (mk 0 S l) c i := by
  rw [feed_nws (show (0 : Int) ≤ 0 by decide) (show (0 : Int) ≤ 5 by decide) hw]; rfl
theorem feed1 (S : List Int) (l : List Tok) {c : Int} (hw : ws c = false) (h : c ≠ 93) (i : Int) : mfeed (mk 1 S l) c i = mbegin (mk 1 S l) c i := by
  rw [feed_nws (show (0 : Int) ≤ 1 by decide) (show (1 : Int) ≤ 5 by decide) hw]
  rw [bst_mk, if_neg (show ¬ (1 : Int) = 0 by decide), if_pos (show (1 : Int) = 1 from rfl), if_neg h]
/-- In a list's beginning a value begins as elsewhere. -/
theorem mfin_first (S : List Int) (l : List Tok) (c : Int) (cs : List Int) (i : Int) (hw : ws c = false) (h : c ≠ 93) : mfin (mk 1 S l) (c :: cs) i = mfin (mk 0 S l) (c :: cs) i := by
  have e1 := feed1 S l hw h i
  have e0 := feed0 S l hw i
  rcases begin_d 1 S l c i with k | ⟨m, m', k1, k2⟩ | ⟨m, m', k1, k2⟩
  · rw [mfin_cons, mfin_cons, e1, e0, k]
  · rw [mfin_err (e1.trans k1) (by decide), mfin_err (e0.trans k2) (by decide)]
  · rw [mfin_err (e1.trans k1) (by decide), mfin_err (e0.trans k2) (by decide)]
theorem feed23 (s : Int) (hs : s = 2 ∨ s = 3) (S : List Int) (l : List Tok) {c : Int} (hw : ws c = false) (h : s = 2 → c ≠ 125) (i : Int) :
    mfeed (mk s S l) c i = if c = 34 then (⟨6, S, i, true, [], 0, l⟩, 0) else (mk s S l, 5) := by
  rw [feed_nws (show (0 : Int) ≤ s by omega) (show s ≤ 5 by omega) hw]
  rw [bst_mk, if_neg (show ¬ s = 0 by omega), if_neg (show ¬ s = 1 by omega), if_pos (show s = 2 ∨ s = 3 from hs), if_neg (fun hh => h hh.2 hh.1)]
theorem feed4 (S : List Int) (l : List Tok) {c : Int} (hw : ws c = false) (i : Int) : mfeed (mk 4 S l) c i = if c = 58 then (mk 0 S (l ++ [(4, i, 1)]), 0) else (mk 4 S l, 5) := by
  rw [feed_nws (show (0 : Int) ≤ 4 by decide) (show (4 : Int) ≤ 5 by decide) hw]
  rw [bst_mk, if_neg (show ¬ (4 : Int) = 0 by decide), if_neg (show ¬ (4 : Int) = 1 by decide), if_neg (show ¬ ((4 : Int) = 2 ∨ (4 : Int) = 3) by decide), if_pos (show (4 : Int) = 4 from rfl)]
def top (b : Bool) : Int := if b then 123 else 91
def clo (b : Bool) : Int := if b then 125 else 93
theorem next_s (s : Int) (S : List Int) (b : Bool) (l : List Tok) (c i : Int) :
    mnext (mk s (S ++ [top b]) l) c i = if c = 44 then (mk (if b then 3 else 0) (S ++ [top b]) (l ++ [(3, i, 1)]), 0) else if c = clo b then (mk 5 S (l ++ [(2, i, 1)]), 0) else (mk s (S ++ [top b]) l, 5) := by
  have e : mnext (mk s (S ++ [top b]) l) c i = if c = 44 ∧ top b = 91 then (mone (mk s (S ++ [top b]) l) 3 i 0, 0) else if c = 44 then (mone (mk s (S ++ [top b]) l) 3 i 3, 0) else if c = 93 ∧ top b = 91 ∨ c = 125 ∧ top b ≠ 91 then (mone { mk s (S ++ [top b]) l with stack := S } 2 i 5, 0) else (mk s (S ++ [top b]) l, 5) := by
    unfold mnext
    have h1 : (mk s (S ++ [top b]) l).stack.getLast? = some (top b) := by simp [mk]
    have h2 : (mk s (S ++ [top b]) l).stack.dropLast = S := by simp [mk]
    rw [h1, h2]
  rw [e]
  cases b with
  | true =>
    have t : top true = 123 := rfl
    have k : clo true = 125 := rfl
    rw [t, k]
    rw [if_neg (show ¬ (c = 44 ∧ (123 : Int) = 91) by omega)]
    by_cases h : c = 44
    · rw [if_pos h, if_pos h]; rfl
    · rw [if_neg h, if_neg h]
      by_cases h2 : c = 125
      · rw [if_pos (show c = 93 ∧ (123 : Int) = 91 ∨ c = 125 ∧ (123 : Int) ≠ 91 from .inr ⟨h2, by decide⟩), if_pos h2]; rfl
      · rw [if_neg (show ¬ (c = 93 ∧ (123 : Int) = 91 ∨ c = 125 ∧ (123 : Int) ≠ 91) by omega), if_neg h2]
  | false =>
    have t : top false = 91 := rfl
    have k : clo false = 93 := rfl
    rw [t, k]
    by_cases h : c = 44
    · rw [if_pos (show c = 44 ∧ (91 : Int) = 91 from ⟨h, rfl⟩), if_pos h]; rfl
    · rw [if_neg (show ¬ (c = 44 ∧ (91 : Int) = 91) by omega), if_neg h, if_neg h]
      by_cases h2 : c = 93
      · rw [if_pos (show c = 93 ∧ (91 : Int) = 91 ∨ c = 125 ∧ (91 : Int) ≠ 91 from .inl ⟨h2, rfl⟩), if_pos h2]; rfl
      · rw [if_neg (show ¬ (c = 93 ∧ (91 : Int) = 91 ∨ c = 125 ∧ (91 : Int) ≠ 91) by omega), if_neg h2]
theorem feed5 (S : List Int) (b : Bool) (l : List Tok) {c : Int} (hw : ws c = false) (i : Int) : mfeed (mk 5 (S ++ [top b]) l) c i = mnext (mk 5 (S ++ [top b]) l) c i := by
  rw [feed_nws (show (0 : Int) ≤ 5 by decide) (show (5 : Int) ≤ 5 by decide) hw]
  rw [bst_mk, if_neg (show ¬ (5 : Int) = 0 by decide), if_neg (show ¬ (5 : Int) = 1 by decide), if_neg (show ¬ ((5 : Int) = 2 ∨ (5 : Int) = 3) by decide), if_neg (show ¬ (5 : Int) = 4 by decide)]
/-- The state ahead of a list's next thing. -/
def ist (b : Bool) : Int := if b then 3 else 0
def fst_ (b : Bool) : Int := if b then 2 else 1
theorem clo_feed (S : List Int) (b : Bool) (l : List Tok) (i : Int) : mfeed (mk (fst_ b) (S ++ [top b]) l) (clo b) i = (mk 5 S (l ++ [(2, i, 1)]), 0) := by
  have hn := next_s (fst_ b) S b l (clo b) i
  cases b with
  | true =>
    rw [feed_nws (show (0 : Int) ≤ 2 by decide) (show (2 : Int) ≤ 5 by decide) rfl]
    show bst (mk 2 _ _) 125 i = _
    rw [bst_mk, if_neg (show ¬ (2 : Int) = 0 by decide), if_neg (show ¬ (2 : Int) = 1 by decide), if_pos (show ((2 : Int) = 2 ∨ (2 : Int) = 3) by decide), if_pos (show (125 : Int) = 125 ∧ (2 : Int) = 2 from ⟨rfl, rfl⟩)]
    exact hn
  | false =>
    rw [feed_nws (show (0 : Int) ≤ 1 by decide) (show (1 : Int) ≤ 5 by decide) rfl]
    show bst (mk 1 _ _) 93 i = _
    rw [bst_mk, if_neg (show ¬ (1 : Int) = 0 by decide), if_pos (show (1 : Int) = 1 from rfl), if_pos (show (93 : Int) = 93 from rfl)]
    exact hn
theorem first_item (S : List Int) (b : Bool) (l : List Tok) (c : Int) (cs : List Int) (i : Int) (hw : ws c = false) (h : c ≠ clo b) : mfin (mk (fst_ b) S l) (c :: cs) i = mfin (mk (ist b) S l) (c :: cs) i := by
  cases b with
  | false => exact mfin_first S l c cs i hw h
  | true =>
    have e2 := feed23 2 (.inl rfl) S l hw (fun _ => h) i
    have e3 := feed23 3 (.inr rfl) S l hw (fun h => absurd h (by decide)) i
    show mfin (mk 2 S l) _ _ = mfin (mk 3 S l) _ _
    by_cases h34 : c = 34
    · rw [if_pos h34] at e2 e3
      rw [mfin_ok e2, mfin_ok e3]
    · rw [if_neg h34] at e2 e3
      rw [mfin_err e2 (by decide), mfin_err e3 (by decide)]
theorem item_end (s : Int) (h0 : 0 ≤ s) (h4 : s ≤ 4) (S : List Int) (l : List Tok) (n : Int) : mfin (mk s S l) [] n = ([], n, 5) := by
  rw [mfin_nil, mend_no (ends_base h0 (by show s ≤ 9; omega)) (by show s ≠ 5; omega)]
theorem begin_list (b : Bool) (S : List Int) (l : List Tok) (i : Int) : mbegin (mk 0 S l) (top b) i = if S.length = 512 then (⟨0, S, i, false, [], 0, l⟩, 6) else (⟨fst_ b, S ++ [top b], i, false, [], 0, l ++ [(1, i, 1)]⟩, 0) := by
  cases b with
  | true => unfold mbegin mone mk; simp only [top, if_true]; rfl
  | false => unfold mbegin mone mk; simp only [top]; rfl
theorem ws_top (b : Bool) : ws (top b) = false := by cases b <;> rfl
theorem parse_spec (p : List Int) : ∀ f : Nat,
    (∀ (S : List Int) (at_ : Nat) (l : List Tok), at_ ≤ p.length → l.length ≤ at_ → 3 * (p.length - at_) + 1 ≤ f →
      mfin (mk 0 S l) (p.drop at_) at_ = res p S (valueP p f S.length at_ l) ∧ post p at_ (valueP p f S.length at_ l)) ∧
    (∀ (S : List Int) (b : Bool) (a : Nat) (l : List Tok), p[a]? = some (top b) → l.length ≤ a → 3 * (p.length - a) ≤ f →
      mfin (mk 0 S l) (p.drop a) a = res p S (listP p f S.length b a l) ∧ post p a (listP p f S.length b a l)) ∧
    (∀ (S : List Int) (b : Bool) (a : Nat) (l : List Tok), a ≤ p.length → (∀ c, p[a]? = some c → ws c = false) → l.length ≤ a → 3 * (p.length - a) + 1 ≤ f →
      mfin (mk 5 (S ++ [top b]) l) (p.drop a) a = res p S (restP p f S.length b a l) ∧ post p a (restP p f S.length b a l)) ∧
    (∀ (S : List Int) (b : Bool) (a : Nat) (l : List Tok), a ≤ p.length → l.length ≤ a → 3 * (p.length - a) + 2 ≤ f →
      mfin (mk (ist b) S l) (p.drop a) a = res p S (itemP p f S.length b a l) ∧ post p a (itemP p f S.length b a l)) := by
  intro f
  induction f with
  | zero =>
    refine ⟨fun S a l h h2 h3 => by omega, fun S b a l h h2 h3 => ?_, fun S b a l h _ h2 h3 => by omega, fun S b a l h h2 h3 => by omega⟩
    have := (List.getElem?_eq_some_iff.1 h).1
    omega
  | succ f ih =>
    obtain ⟨ih1, ih2, ih3, ih4⟩ := ih
    refine ⟨?_, ?_, ?_, ?_⟩
    · intro S at_ l h h2 h3
      have g1 := skip_le p at_ h
      have g2 := skip_ge p at_
      rw [mfin_skip (show (0 : Int) ≤ 0 by decide) (show (0 : Int) ≤ 5 by decide) p at_]
      have g4 := fun c => skip_stop p at_ (c := c)
      unfold valueP
      simp only
      generalize skip p at_ = a at *
      rcases at_or p a g1 with ⟨c, hc, hdr, hse, hlt⟩ | ⟨heq, hn0, hdr, hse⟩
      · have hw := g4 c hc
        have e0 := feed0 S l hw a
        rw [hse]
        by_cases c123 : c = 123
        · rw [if_pos c123]
          obtain ⟨r1, r2⟩ := ih2 S true a l (by rw [hc, c123]; rfl) (by omega) (by omega)
          exact ⟨r1, post_mono r2 g2⟩
        · rw [if_neg c123]
          by_cases c91 : c = 91
          · rw [if_pos c91]
            obtain ⟨r1, r2⟩ := ih2 S false a l (by rw [hc, c91]; rfl) (by omega) (by omega)
            exact ⟨r1, post_mono r2 g2⟩
          · rw [if_neg c91]
            by_cases c34 : c = 34
            · rw [if_pos c34]
              obtain ⟨x1, x2, x3⟩ := text_spec p S false l a hlt (mk 0 S l) (by rw [hc, c34]) (by rw [feed0 S l rfl]; unfold mbegin; rfl)
              have := atomO_spec p S a l _ (.inl x1) x2 (by omega)
              rw [x3]
              exact ⟨this.1, post_mono this.2 g2⟩
            · rw [if_neg c34]
              have hb : ∀ s, mbegin (mk 0 S l) c a = (⟨s, S, a, false, [], 0, l⟩, 0) → ∀ r, NumR p s S a l (a + 1) r → mfin (mk 0 S l) (p.drop a) a = res p S (atomO r a l) ∧ post p at_ (atomO r a l) := by
                intro s hs r hr
                obtain ⟨y1, y2, y3⟩ := hr
                have := atomO_spec p S a l r (.inl (by omega)) y2 (by omega)
                rw [hdr, mfin_ok (e0.trans hs)]
                exact ⟨y3.trans this.1, post_mono this.2 g2⟩
              by_cases cn : c = 45 ∨ dig c = true
              · rw [if_pos cn]
                unfold numberP
                rw [hse]
                by_cases c45 : c = 45
                · rw [if_pos c45]
                  refine hb 9 ?_ _ (numR_int (by omega))
                  subst c45; rfl
                · rw [if_neg c45]
                  have hg : dig c = true := cn.resolve_left c45
                  have hg' := (dig_iff c).1 hg
                  unfold intP
                  rw [hse]
                  by_cases c48 : c = 48
                  · rw [if_pos c48]
                    refine hb 10 ?_ _ (numR_frac 10 (.inl rfl) (by omega) (fun h => absurd h (by decide)))
                    subst c48; rfl
                  · rw [if_neg c48]
                    have hbeg : mbegin (mk 0 S l) c a = (⟨11, S, a, false, [], 0, l⟩, 0) := by
                      unfold mbegin
                      rw [if_neg (by omega), if_neg c34, if_neg c45, if_neg c48, if_pos hg]
                      rfl
                    have := numR_int (p := p) (S := S) (f := a) (l := l) (i := a) (by omega)
                    unfold intP at this
                    rw [hse, if_neg c48] at this
                    obtain ⟨y1, y2, y3⟩ := this
                    have e9 : mfin ⟨9, S, a, false, [], 0, l⟩ (p.drop a) a = mfin (mk 0 S l) (p.drop a) a := by
                      rw [hdr, mfin_ok (e0.trans hbeg), mfin_ok (feed_num (s' := 11) (by rw [num9, if_neg c48, hg]))]
                    rw [e9] at y3
                    have hlt' : a < (if (digitsP p a).1 = true then fracP p (digitsP p a).2 else digitsP p a).2 ∨ (if (digitsP p a).1 = true then fracP p (digitsP p a).2 else digitsP p a).1 = false := by
                      obtain ⟨k1, _⟩ := digits_spec p 12 13 S a l (by decide) (fun c hc => by rw [num12, hc]) (fun c hc => by rw [num13, if_neg (by have := (dig_iff c).1 hc; omega), hc]) a (by omega) (fun hd _ => by rw [num12, hd])
                      cases hx : (digitsP p a).1 with
                      | false => right; simp [hx]
                      | true =>
                        obtain ⟨x1, x2, x3, _⟩ := k1 hx
                        left
                        simp only [if_true]
                        have := (numR_frac (p := p) (S := S) (f := a) (l := l) 11 (.inr rfl) x2 (fun _ => x3)).1
                        omega
                    have := atomO_spec p S a l _ hlt' y2 (by omega)
                    exact ⟨y3.trans this.1, post_mono this.2 g2⟩
              · rw [if_neg cn]
                have hng : ¬ dig c = true := fun h => cn (.inr h)
                have h45 : c ≠ 45 := fun h => cn (.inl h)
                have h48 : c ≠ 48 := by rintro rfl; exact hng rfl
                have hword : ∀ (w : List Int), w ≠ [] → mbegin (mk 0 S l) c a = (⟨17, S, a, false, w, 0, l⟩, 0) → mfin (mk 0 S l) (p.drop a) a = res p S (atomO (wordP p (c :: w) a) a l) ∧ post p at_ (atomO (wordP p (c :: w) a) a l) := by
                  intro w hw0 hm
                  obtain ⟨y1, y2, y3⟩ := word_spec p S a l w (a + 1) hw0 (by omega)
                  have e : wordP p (c :: w) a = wordP p w (a + 1) := by
                    conv => lhs; unfold wordP
                    rw [if_pos hc]
                  rw [e]
                  have := atomO_spec p S a l (wordP p w (a + 1)) (.inl (by omega)) y2 (by omega)
                  rw [hdr, mfin_ok (e0.trans hm)]
                  exact ⟨y3.trans this.1, post_mono this.2 g2⟩
                by_cases c116 : c = 116
                · rw [if_pos c116]
                  have := hword [114, 117, 101] (by simp) (by subst c116; rfl)
                  rw [c116] at this; exact this
                · rw [if_neg c116]
                  by_cases c102 : c = 102
                  · rw [if_pos c102]
                    have := hword [97, 108, 115, 101] (by simp) (by subst c102; rfl)
                    rw [c102] at this; exact this
                  · rw [if_neg c102]
                    by_cases c110 : c = 110
                    · rw [if_pos c110]
                      have := hword [117, 108, 108] (by simp) (by subst c110; rfl)
                      rw [c110] at this; exact this
                    · rw [if_neg c110]
                      refine ⟨?_, by omega, .inl rfl⟩
                      have hbeg : mbegin (mk 0 S l) c a = (⟨0, S, a, false, [], 0, l⟩, 5) := by
                        unfold mbegin
                        rw [if_neg (by omega), if_neg c34, if_neg h45, if_neg h48, if_neg hng, if_neg c116, if_neg c102, if_neg c110]
                        rfl
                      rw [hdr, mfin_err (e0.trans hbeg) (by decide)]
                      rfl
      · rw [hse]
        simp only [show ¬ (0 : Int) = 123 by decide, show ¬ (0 : Int) = 91 by decide, show ¬ (0 : Int) = 34 by decide, show ¬ ((0 : Int) = 45 ∨ dig 0 = true) by decide, show ¬ (0 : Int) = 116 by decide, show ¬ (0 : Int) = 102 by decide, show ¬ (0 : Int) = 110 by decide, if_false]
        refine ⟨?_, by omega, .inl rfl⟩
        rw [hdr, item_end 0 (by decide) (by decide)]
        rfl
    · intro S b a l hc h2 h3
      have hlt := (List.getElem?_eq_some_iff.1 hc).1
      unfold listP
      have e0 := feed0 S l (ws_top b) a
      rw [begin_list] at e0
      by_cases hd : S.length = 512
      · rw [if_pos hd] at e0
        rw [if_pos hd]
        refine ⟨?_, by omega, .inr rfl⟩
        rw [drop_cons hc, mfin_err e0 (by decide)]
        rfl
      · rw [if_neg hd] at e0
        rw [if_neg hd]
        simp only
        have fb : (0 : Int) ≤ fst_ b ∧ fst_ b ≤ 4 := by cases b <;> decide
        have e1 : mfin (mk 0 S l) (p.drop a) a = mfin (mk (fst_ b) (S ++ [top b]) (l ++ [(1, (a : Int), 1)])) (p.drop (skip p (a + 1))) (skip p (a + 1) : Nat) := by
          rw [drop_cons hc, mfin_ok e0, mfin_frm' _ _ _ _ fb.1 (by omega)]
          exact mfin_skip (m := mk (fst_ b) (S ++ [top b]) (l ++ [(1, (a : Int), 1)])) fb.1 (by show fst_ b ≤ 5; omega) p (a + 1)
        rw [e1]
        have g1 := skip_le p (a + 1) (by omega)
        have g2 := skip_ge p (a + 1)
        have g4 := fun c => skip_stop p (a + 1) (c := c)
        generalize skip p (a + 1) = k at *
        have hcl : (if b = true then (125 : Int) else 93) = clo b := rfl
        rw [hcl]
        have hl' : (l ++ [(1, (a : Int), 1)]).length ≤ k := by simp; omega
        generalize l ++ [(1, (a : Int), 1)] = L at *
        rcases at_or p k g1 with ⟨c, hck, hdr, hse, hltk⟩ | ⟨heq, hn0, hdr, hse⟩
        · rw [hse]
          by_cases hcl2 : c = clo b
          · rw [if_pos hcl2]
            refine ⟨?_, ?_⟩
            · rw [hdr, hcl2, mfin_ok (clo_feed S b L k)]
              rfl
            · show a < k + 1 ∧ k + 1 ≤ _ ∧ (L ++ [_]).length ≤ k + 1
              simp; omega
          · rw [if_neg hcl2]
            have e2 := first_item (S ++ [top b]) b L c (p.drop (k + 1)) k (g4 c hck) hcl2
            rw [hdr, e2, ← hdr]
            obtain ⟨r1, r2⟩ := ih4 (S ++ [top b]) b k L g1 hl' (by omega)
            rw [List.length_append] at r1 r2
            simp only [List.length_cons, List.length_nil] at r1 r2
            rw [r1]
            revert r2
            cases itemP p f (S.length + (0 + 1)) b k L with
            | stop e x => exact fun z => ⟨rfl, z⟩
            | ok x l' =>
              rintro ⟨x1, x2, x3⟩
              simp only [res]
              rw [mfin_skip (m := mk 5 (S ++ [top b]) l') (show (0 : Int) ≤ 5 by decide) (show (5 : Int) ≤ 5 by decide)]
              have k1 := skip_le p x x2
              have k2 := skip_ge p x
              obtain ⟨s1, s2⟩ := ih3 S b (skip p x) l' k1 (fun c => skip_stop p x (c := c)) (by omega) (by omega)
              exact ⟨s1, post_mono s2 (by omega)⟩
        · have hcl2 : ¬ (0 : Int) = clo b := by cases b <;> decide
          rw [hse, if_neg hcl2]
          obtain ⟨r1, r2⟩ := ih4 (S ++ [top b]) b k L g1 hl' (by omega)
          rw [List.length_append] at r1 r2
          simp only [List.length_cons, List.length_nil] at r1 r2
          have fi : (0 : Int) ≤ ist b ∧ ist b ≤ 4 := by cases b <;> decide
          rw [hdr, item_end _ fi.1 fi.2] at r1
          rw [hdr, item_end _ fb.1 fb.2]
          revert r1 r2
          cases itemP p f (S.length + (0 + 1)) b k L with
          | stop e x => exact fun y z => ⟨y, z⟩
          | ok x l' => rintro _ ⟨x1, x2, x3⟩; omega
    · intro S b a l ha hw h2 h3
      unfold restP
      have hcl : (if b = true then (125 : Int) else 93) = clo b := rfl
      rw [hcl]
      rcases at_or p a ha with ⟨c, hc, hdr, hse, hlt⟩ | ⟨heq, hn0, hdr, hse⟩
      · have hwc := hw c hc
        have e5 := (feed5 S b l hwc a).trans (next_s 5 S b l c a)
        rw [hse]
        by_cases c44 : c = 44
        · rw [if_pos c44] at e5
          rw [if_pos c44, hdr, mfin_ok e5]
          obtain ⟨r1, r2⟩ := ih4 (S ++ [top b]) b (a + 1) (l ++ [(3, (a : Int), 1)]) (by omega) (by simp; omega) (by omega)
          rw [List.length_append] at r1 r2
          simp only [List.length_cons, List.length_nil] at r1 r2
          have r1' : mfin (mk (if b = true then 3 else 0) (S ++ [top b]) (l ++ [(3, (a : Int), 1)])) (p.drop (a + 1)) ((a : Int) + 1) = _ := r1
          rw [r1']
          revert r2
          simp only [Nat.zero_add]
          cases itemP p f (S.length + 1) b (a + 1) (l ++ [(3, (a : Int), 1)]) with
          | stop e x => exact fun z => ⟨rfl, z⟩
          | ok x l' =>
            rintro ⟨x1, x2, x3⟩
            simp only [res]
            rw [mfin_skip (m := mk 5 (S ++ [top b]) l') (show (0 : Int) ≤ 5 by decide) (show (5 : Int) ≤ 5 by decide)]
            have k1 := skip_le p x x2
            have k2 := skip_ge p x
            obtain ⟨s1, s2⟩ := ih3 S b (skip p x) l' k1 (fun c => skip_stop p x (c := c)) (by omega) (by omega)
            exact ⟨s1, post_mono s2 (by omega)⟩
        · rw [if_neg c44] at e5
          rw [if_neg c44]
          by_cases hcl2 : c = clo b
          · rw [if_pos hcl2] at e5
            rw [if_pos hcl2]
            refine ⟨?_, ?_⟩
            · rw [hdr, mfin_ok e5]
              rfl
            · show a < a + 1 ∧ a + 1 ≤ _ ∧ (l ++ [_]).length ≤ a + 1
              simp; omega
          · rw [if_neg hcl2] at e5
            rw [if_neg hcl2]
            refine ⟨?_, by omega, .inl rfl⟩
            rw [hdr, mfin_err e5 (by decide)]
            rfl
      · have hcl2 : ¬ (0 : Int) = clo b := by cases b <;> decide
        rw [hse, if_neg (by decide), if_neg hcl2]
        refine ⟨?_, by omega, .inl rfl⟩
        rw [hdr, mfin_nil]
        have hne : mend (mk 5 (S ++ [top b]) l) (a : Int) = ([], (a : Int), 5) := by
          unfold mend
          rw [if_neg (fun h => by simp [mk] at h)]
        rw [hne]
        simp only [res]
    · intro S b a l ha h2 h3
      unfold itemP
      cases b with
      | false =>
        simp only [Bool.false_eq_true, if_false]
        exact ih1 S a l ha h2 (by omega)
      | true =>
        simp only [if_true]
        show mfin (mk 3 S l) _ _ = _ ∧ _
        rw [mfin_skip (m := mk 3 S l) (show (0 : Int) ≤ 3 by decide) (show (3 : Int) ≤ 5 by decide)]
        have g1 := skip_le p a ha
        have g2 := skip_ge p a
        have g4 := fun c => skip_stop p a (c := c)
        generalize skip p a = k at *
        rcases at_or p k g1 with ⟨c, hc, hdr, hse, hlt⟩ | ⟨heq, hn0, hdr, hse⟩
        · have e3 := feed23 3 (.inr rfl) S l (g4 c hc) (fun h => absurd h (by decide)) k
          by_cases c34 : c = 34
          · rw [if_pos c34] at e3
            obtain ⟨x1, x2, x3⟩ := text_spec p S true l k hlt (mk 3 S l) (by rw [hc, c34]) (by rw [← c34]; exact e3)
            rw [x3]
            generalize textP p k = r at *
            obtain ⟨ok, b⟩ := r
            cases ok with
            | false => exact ⟨rfl, x2, .inl rfl⟩
            | true =>
              simp only [if_true] at x1 x2 ⊢
              have hL : (l ++ [(5, (k : Int), (b : Int) - k)]).length ≤ b := by simp; omega
              show mfin (mk 4 S (l ++ [(5, (k : Int), (b : Int) - k)])) _ _ = _ ∧ _
              generalize l ++ [(5, (k : Int), (b : Int) - k)] = L at *
              rw [mfin_skip (m := mk 4 S L) (show (0 : Int) ≤ 4 by decide) (show (4 : Int) ≤ 5 by decide)]
              have k1 := skip_le p b x2
              have k2 := skip_ge p b
              have k4 := fun c => skip_stop p b (c := c)
              generalize skip p b = n at *
              rcases at_or p n k1 with ⟨c', hc', hdr', hse', hlt'⟩ | ⟨heq', hn0', hdr', hse'⟩
              · have e4 := feed4 S L (k4 c' hc') n
                rw [hse']
                by_cases c58 : c' = 58
                · rw [if_pos c58] at e4
                  rw [if_pos c58, hdr', mfin_ok e4]
                  obtain ⟨r1, r2⟩ := ih1 S (n + 1) (L ++ [(4, (n : Int), 1)]) (by omega) (by simp; omega) (by omega)
                  exact ⟨r1, post_mono r2 (by omega)⟩
                · rw [if_neg c58] at e4
                  rw [if_neg c58]
                  refine ⟨?_, by omega, .inl rfl⟩
                  rw [hdr', mfin_err e4 (by decide)]
                  rfl
              · rw [hse', if_neg (by decide)]
                refine ⟨?_, by omega, .inl rfl⟩
                rw [hdr', item_end 4 (by decide) (by decide)]
                rfl
          · rw [if_neg c34] at e3
            have et : textP p k = (false, k) := by unfold textP; rw [if_neg (by rw [hc]; intro h; exact c34 (by simpa using h))]
            rw [et]
            refine ⟨?_, g1, .inl rfl⟩
            rw [hdr, mfin_err e3 (by decide)]
            rfl
        · have et : textP p k = (false, k) := by unfold textP; rw [if_neg (by rw [hn0]; simp)]
          rw [et]
          refine ⟨?_, g1, .inl rfl⟩
          rw [hdr, item_end 3 (by decide) (by decide)]
          rfl
theorem readP_mread (p : List Int) : readP p = mread p := by
  rw [mread_mfin]
  obtain ⟨h1, h2⟩ := (parse_spec p (5 * p.length + 9)).1 [] 0 [] (by omega) (by simp) (by omega)
  unfold readP
  have e : mfin m0 p 0 = mfin (mk 0 [] []) (p.drop 0) ((0 : Nat) : Int) := rfl
  rw [e, h1]
  revert h2
  simp only [List.length_nil]
  cases valueP p (5 * p.length + 9) 0 0 [] with
  | stop e a => intro _; rfl
  | ok b l =>
    rintro ⟨x1, x2, x3⟩
    simp only [res]
    rw [mfin_skip (m := mk 5 [] l) (show (0 : Int) ≤ 5 by decide) (show (5 : Int) ≤ 5 by decide)]
    have g1 := skip_le p b x2
    have g4 := fun c => skip_stop p b (c := c)
    generalize skip p b = a at *
    rcases at_or p a g1 with ⟨c, hc, hdr, hse, hlt⟩ | ⟨heq, hn0, hdr, hse⟩
    · rw [if_pos hlt, hdr]
      have : mfeed (mk 5 [] l) c a = (mk 5 [] l, 5) := by
        rw [feed_nws (show (0 : Int) ≤ 5 by decide) (show (5 : Int) ≤ 5 by decide) (g4 c hc)]
        rfl
      rw [mfin_err this (by decide)]
    · rw [if_neg (by omega), hdr, mfin_nil]
      rfl
end Go.Proofs.Ytdgdnccpginclaa.JSimc
