/- Proved: plain steps of the reference's machine of layer 8: blanks, digits; no condition. -/
import Derived.Test.YtdgdnccpginclaaJDefs
namespace Go.Proofs.Ytdgdnccpginclaa.JSim
open Go.Proofs.Ytdgdnccpginclaa.JDefs
set_option linter.unusedVariables false
set_option linter.unusedSimpArgs false
theorem mgo_nil (m : Mach) (i : Int) : mgo m [] i = (m, i, 0) := rfl
theorem mgo_cons (m : Mach) (c : Int) (cs : List Int) (i : Int) : mgo m (c :: cs) i = if (mfeed m c i).2 = 0 then mgo (mfeed m c i).1 cs (i + 1) else ((mfeed m c i).1, i, (mfeed m c i).2) := rfl
/-- The reference's answer from a state on. -/
def mfin (m : Mach) (cs : List Int) (i : Int) : List Tok × Int × Int :=
  if (mgo m cs i).2.2 = 0 then mend (mgo m cs i).1 (i + cs.length) else ([], (mgo m cs i).2.1, (mgo m cs i).2.2)
theorem mfin_nil (m : Mach) (i : Int) : mfin m [] i = mend m i := by simp [mfin, mgo_nil]
theorem mfin_cons (m : Mach) (c : Int) (cs : List Int) (i : Int) :
    mfin m (c :: cs) i = if (mfeed m c i).2 = 0 then mfin (mfeed m c i).1 cs (i + 1) else ([], i, (mfeed m c i).2) := by
  unfold mfin
  rw [mgo_cons]
  split
  · have : i + ((c :: cs).length : Int) = i + 1 + (cs.length : Int) := by simp; omega
    rw [this]
  · next h => simp [h]
theorem mfin_ok {m m' : Mach} {c : Int} {cs : List Int} {i : Int} (h : mfeed m c i = (m', 0)) : mfin m (c :: cs) i = mfin m' cs (i + 1) := by
  rw [mfin_cons, h]; rfl
theorem mfin_err {m m' : Mach} {c e : Int} {cs : List Int} {i : Int} (h : mfeed m c i = (m', e)) (he : e ≠ 0) : mfin m (c :: cs) i = ([], i, e) := by
  rw [mfin_cons, h]; exact if_neg he
theorem mread_mfin (p : List Int) : mread p = mfin m0 p 0 := by
  unfold mread mfin; simp
def mk (s : Int) (S : List Int) (l : List Tok) : Mach := ⟨s, S, 0, false, [], 0, l⟩
theorem ws_iff (c : Int) : ws c = true ↔ (c = 32 ∨ c = 9 ∨ c = 10 ∨ c = 13) := by
  unfold ws; simp only [Bool.or_eq_true, beq_iff_eq]; omega
theorem nws {c : Int} (hw : ws c = false) : ¬ (c = 32 ∨ c = 9 ∨ c = 10 ∨ c = 13) := fun h => by rw [(ws_iff c).2 h] at hw; exact absurd hw (by simp)
theorem dig_iff (c : Int) : dig c = true ↔ 48 ≤ c ∧ c ≤ 57 := by unfold dig; simp
theorem num_base {s : Int} (h0 : 0 ≤ s) (h8 : s ≤ 8) (c : Int) : num s c = (0, false) := by
  unfold num
  rw [if_neg (by omega), if_neg (by omega), if_neg (by omega), if_neg (by omega), if_neg (by omega), if_neg (by omega)]
theorem num_word (c : Int) : num 17 c = (0, false) := by unfold num; simp
theorem ends_base {s : Int} (h0 : 0 ≤ s) (h8 : s ≤ 9) : endsB s = false := by
  unfold endsB
  simp only [Bool.or_eq_false_iff, beq_eq_false_iff_ne]; omega
/-- In the states 0 to 5. -/
theorem feed_base {m : Mach} (h0 : 0 ≤ m.st) (h8 : m.st ≤ 8) (c i : Int) : mfeed m c i = mrest m c i := by
  unfold mfeed
  rw [num_base h0 h8, ends_base h0 (by omega)]
  simp
def bst (m : Mach) (c i : Int) : Mach × Int :=
  if m.st = 0 then mbegin m c i
  else if m.st = 1 then (if c = 93 then mnext m c i else mbegin m c i)
  else if m.st = 2 ∨ m.st = 3 then (if c = 125 ∧ m.st = 2 then mnext m c i else if c = 34 then ({ m with frm := i, st := 6, named := true }, 0) else (m, 5))
  else if m.st = 4 then (if c = 58 then (mone m 4 i 0, 0) else (m, 5))
  else mnext m c i
theorem feed_b {m : Mach} (h0 : 0 ≤ m.st) (h5 : m.st ≤ 5) (c i : Int) : mfeed m c i = if c = 32 ∨ c = 9 ∨ c = 10 ∨ c = 13 then (m, 0) else bst m c i := by
  rw [feed_base h0 (by omega)]
  unfold mrest bst
  rw [if_neg (by omega), if_neg (by omega)]
theorem feed_ws {m : Mach} (h0 : 0 ≤ m.st) (h5 : m.st ≤ 5) {c : Int} (hw : ws c = true) (i : Int) : mfeed m c i = (m, 0) := by
  rw [feed_b h0 h5, if_pos ((ws_iff c).1 hw)]
theorem feed_nws {m : Mach} (h0 : 0 ≤ m.st) (h5 : m.st ≤ 5) {c : Int} (hw : ws c = false) (i : Int) : mfeed m c i = bst m c i := by
  rw [feed_b h0 h5, if_neg (nws hw)]
theorem next_frm (s : Int) (S : List Int) (x y : Int) (l : List Tok) (c i : Int) :
    (∃ s' S' l', 0 ≤ s' ∧ s' ≤ 5 ∧ mnext ⟨s, S, x, false, [], 0, l⟩ c i = (⟨s', S', x, false, [], 0, l'⟩, 0) ∧ mnext ⟨s, S, y, false, [], 0, l⟩ c i = (⟨s', S', y, false, [], 0, l'⟩, 0)) ∨
    (∃ m m', mnext ⟨s, S, x, false, [], 0, l⟩ c i = (m, 5) ∧ mnext ⟨s, S, y, false, [], 0, l⟩ c i = (m', 5)) := by
  unfold mnext
  simp only
  cases S.getLast? with
  | none => exact .inr ⟨_, _, rfl, rfl⟩
  | some top =>
    simp only
    by_cases a1 : c = 44 ∧ top = 91
    · rw [if_pos a1, if_pos a1]; exact .inl ⟨0, S, _, by decide, by decide, rfl, rfl⟩
    · rw [if_neg a1, if_neg a1]
      by_cases a2 : c = 44
      · rw [if_pos a2, if_pos a2]; exact .inl ⟨3, S, _, by decide, by decide, rfl, rfl⟩
      · rw [if_neg a2, if_neg a2]
        by_cases a3 : c = 93 ∧ top = 91 ∨ c = 125 ∧ top ≠ 91
        · rw [if_pos a3, if_pos a3]; exact .inl ⟨5, _, _, by decide, by decide, rfl, rfl⟩
        · rw [if_neg a3, if_neg a3]; exact .inr ⟨_, _, rfl, rfl⟩
theorem begin_frm (s : Int) (S : List Int) (x y : Int) (l : List Tok) (c i : Int) : mbegin ⟨s, S, x, false, [], 0, l⟩ c i = mbegin ⟨s, S, y, false, [], 0, l⟩ c i := rfl
/-- The place frm is not asked in the states 0 to 5. -/
theorem mfin_frm (s : Int) (S : List Int) (x y : Int) (l : List Tok) (h0 : 0 ≤ s) (h5 : s ≤ 5) (cs : List Int) (i : Int) :
    mfin ⟨s, S, x, false, [], 0, l⟩ cs i = mfin ⟨s, S, y, false, [], 0, l⟩ cs i := by
  induction cs generalizing s S x y l i with
  | nil =>
    rw [mfin_nil, mfin_nil]; unfold mend mlast
    simp only [ends_base h0 (show s ≤ 9 by omega)]
    simp
  | cons c cs ih =>
    by_cases hw : ws c = true
    · rw [mfin_ok (feed_ws (m := ⟨s, S, x, false, [], 0, l⟩) h0 h5 hw i), mfin_ok (feed_ws (m := ⟨s, S, y, false, [], 0, l⟩) h0 h5 hw i)]
      exact ih s S x y l h0 h5 (i + 1)
    · have hw' : ws c = false := by simpa using hw
      have f1 := feed_nws (m := ⟨s, S, x, false, [], 0, l⟩) h0 h5 hw' i
      have f2 := feed_nws (m := ⟨s, S, y, false, [], 0, l⟩) h0 h5 hw' i
      have hnext : mfeed ⟨s, S, x, false, [], 0, l⟩ c i = mnext ⟨s, S, x, false, [], 0, l⟩ c i → mfeed ⟨s, S, y, false, [], 0, l⟩ c i = mnext ⟨s, S, y, false, [], 0, l⟩ c i →
          mfin ⟨s, S, x, false, [], 0, l⟩ (c :: cs) i = mfin ⟨s, S, y, false, [], 0, l⟩ (c :: cs) i := by
        intro e1 e2
        rcases next_frm s S x y l c i with ⟨s', S', l', k0, k5, k1, k2⟩ | ⟨m, m', k1, k2⟩
        · rw [mfin_ok (e1.trans k1), mfin_ok (e2.trans k2)]; exact ih s' S' x y l' k0 k5 _
        · rw [mfin_err (e1.trans k1) (by decide), mfin_err (e2.trans k2) (by decide)]
      have hbeg : mfeed ⟨s, S, x, false, [], 0, l⟩ c i = mbegin ⟨s, S, x, false, [], 0, l⟩ c i → mfeed ⟨s, S, y, false, [], 0, l⟩ c i = mbegin ⟨s, S, y, false, [], 0, l⟩ c i →
          mfin ⟨s, S, x, false, [], 0, l⟩ (c :: cs) i = mfin ⟨s, S, y, false, [], 0, l⟩ (c :: cs) i := by
        intro e1 e2
        rw [mfin_cons, mfin_cons, e1, e2, begin_frm s S x y]
      unfold bst at f1 f2
      simp only at f1 f2
      by_cases a0 : s = 0
      · rw [if_pos a0] at f1 f2; exact hbeg f1 f2
      · rw [if_neg a0] at f1 f2
        by_cases a1 : s = 1
        · rw [if_pos a1] at f1 f2
          by_cases c93 : c = 93
          · rw [if_pos c93] at f1 f2; exact hnext f1 f2
          · rw [if_neg c93] at f1 f2; exact hbeg f1 f2
        · rw [if_neg a1] at f1 f2
          by_cases a2 : s = 2 ∨ s = 3
          · rw [if_pos a2] at f1 f2
            by_cases c125 : c = 125 ∧ s = 2
            · rw [if_pos c125] at f1 f2; exact hnext f1 f2
            · rw [if_neg c125] at f1 f2
              by_cases c34 : c = 34
              · rw [if_pos c34] at f1 f2
                rw [mfin_cons, mfin_cons, f1, f2]
              · rw [if_neg c34] at f1 f2
                rw [mfin_err f1 (by decide), mfin_err f2 (by decide)]
          · rw [if_neg a2] at f1 f2
            by_cases a4 : s = 4
            · rw [if_pos a4] at f1 f2
              by_cases c58 : c = 58
              · rw [if_pos c58] at f1 f2
                rw [mfin_ok f1, mfin_ok f2]; exact ih 0 S x y _ (by decide) (by decide) _
              · rw [if_neg c58] at f1 f2
                rw [mfin_err f1 (by decide), mfin_err f2 (by decide)]
            · rw [if_neg a4] at f1 f2; exact hnext f1 f2
theorem mfin_frm' (s : Int) (S : List Int) (x : Int) (l : List Tok) (h0 : 0 ≤ s) (h5 : s ≤ 5) (cs : List Int) (i : Int) :
    mfin ⟨s, S, x, false, [], 0, l⟩ cs i = mfin (mk s S l) cs i := mfin_frm s S x 0 l h0 h5 cs i
theorem skip_le (p : List Int) (i : Nat) (h : i ≤ p.length) : skip p i ≤ p.length := by
  unfold skip
  have h2 := (List.takeWhile_prefix ws (l := p.drop i)).length_le
  rw [List.length_drop] at h2
  omega
theorem skip_ge (p : List Int) (i : Nat) : i ≤ skip p i := by unfold skip; omega
theorem drop_cons {p : List Int} {i : Nat} {c : Int} (h : p[i]? = some c) : p.drop i = c :: p.drop (i + 1) := by
  obtain ⟨hi, e⟩ := List.getElem?_eq_some_iff.1 h
  rw [List.drop_eq_getElem_cons hi, e]
theorem skip_stop (p : List Int) (i : Nat) {c : Int} (h : p[skip p i]? = some c) : ws c = false := by
  have hd := drop_cons h
  have e : p.drop (skip p i) = (p.drop i).dropWhile ws := by
    have e2 : p.drop (skip p i) = (p.drop i).drop ((p.drop i).takeWhile ws).length := by
      rw [List.drop_drop]; rfl
    rw [e2]
    generalize p.drop i = q
    have e1 := List.takeWhile_append_dropWhile (p := ws) (l := q)
    generalize q.takeWhile ws = a at *
    generalize q.dropWhile ws = b at *
    rw [← e1, List.drop_left]
  rw [e] at hd
  have := List.head?_dropWhile_not ws (p.drop i)
  rw [hd] at this
  simpa using this
theorem mfin_skip {m : Mach} (h0 : 0 ≤ m.st) (h5 : m.st ≤ 5) (p : List Int) (i : Nat) :
    mfin m (p.drop i) i = mfin m (p.drop (skip p i)) (skip p i : Nat) := by
  have key : ∀ (cs : List Int) (i : Int), mfin m cs i = mfin m (cs.drop (cs.takeWhile ws).length) (i + (cs.takeWhile ws).length) := by
    intro cs
    induction cs with
    | nil => intro i; simp
    | cons c cs ih =>
      intro i
      by_cases hw : ws c = true
      · rw [mfin_ok (feed_ws h0 h5 hw i), List.takeWhile_cons_of_pos hw]
        simp only [List.length_cons, List.drop_succ_cons]
        rw [ih (i + 1)]
        congr 1
        omega
      · rw [List.takeWhile_cons_of_neg hw]; simp
  rw [key]
  unfold skip
  rw [List.drop_drop]
  congr 1
/-- The byte at hand. -/
theorem sees_at {p : List Int} {i : Nat} {c : Int} (h : p[i]? = some c) : sees p i = c := by
  unfold sees; rw [List.getD_eq_getElem?_getD, h]; rfl
theorem sees_end {p : List Int} {i : Nat} (h : p.length ≤ i) : sees p i = 0 := by
  unfold sees; rw [List.getD_eq_getElem?_getD, List.getElem?_eq_none h]; rfl
theorem at_or (p : List Int) (i : Nat) (h : i ≤ p.length) : (∃ c, p[i]? = some c ∧ p.drop i = c :: p.drop (i + 1) ∧ sees p i = c ∧ i < p.length) ∨ (i = p.length ∧ p[i]? = none ∧ p.drop i = [] ∧ sees p i = 0) := by
  by_cases hi : i < p.length
  · have hc := List.getElem?_eq_getElem hi
    exact .inl ⟨_, hc, drop_cons hc, sees_at hc, hi⟩
  · exact .inr ⟨by omega, List.getElem?_eq_none (by omega), List.drop_of_length_le (by omega), sees_end (by omega)⟩
/-- What a state that may not end comes to at the end. -/
theorem mend_no {m : Mach} (h : endsB m.st = false) (h5 : m.st ≠ 5) (n : Int) : mend m n = ([], n, 5) := by
  unfold mend mlast
  rw [h]
  simp [h5]
/-- What a part comes to. -/
def resB (p : List Int) (k : Nat → Mach) : Bool × Nat → List Tok × Int × Int
  | (true, b) => mfin (k b) (p.drop b) (b : Nat)
  | (false, x) => ([], (x : Int), 5)
/-- Where an atom has ended. -/
def A (s : Int) (S : List Int) (f : Nat) (l : List Tok) (b : Nat) : Mach := mk s S (l ++ [(5, (f : Int), (b : Int) - f)])
/-- Numbers. -/
theorem num_end (s : Int) (S : List Int) (f : Nat) (l : List Tok) (hs : endsB s = true) (cs : List Int) (hc : ∀ c t, cs = c :: t → (num s c).2 = false) (b : Nat) :
    mfin ⟨s, S, f, false, [], 0, l⟩ cs b = mfin (A 5 S f l b) cs b := by
  unfold A
  rw [← mfin_frm' 5 S f _ (by decide) (by decide)]
  cases cs with
  | nil =>
    rw [mfin_nil, mfin_nil]; unfold mend mlast
    rw [if_pos (show endsB s = true from hs), if_neg (show ¬ endsB 5 = true by decide)]
    rfl
  | cons c t =>
    rw [mfin_cons, mfin_cons, feed_base (m := ⟨5, S, f, _, _, _, _⟩) (show (0 : Int) ≤ 5 by decide) (show (5 : Int) ≤ 8 by decide)]
    have : mfeed ⟨s, S, f, false, [], 0, l⟩ c b = mrest ⟨5, S, f, false, [], 0, l ++ [(5, (f : Int), (b : Int) - f)]⟩ c b := by
      unfold mfeed
      rw [if_neg (show ¬ (num s c).2 = true by rw [hc c t rfl]; decide), if_pos (show endsB s = true from hs)]
      rfl
    rw [this]
theorem feed_num {s : Int} {S : List Int} {f : Int} {l : List Tok} {c i s' : Int} (h : num s c = (s', true)) : mfeed ⟨s, S, f, false, [], 0, l⟩ c i = (⟨s', S, f, false, [], 0, l⟩, 0) := by
  unfold mfeed
  rw [show num (Mach.st ⟨s, S, f, false, [], 0, l⟩) c = (s', true) from h, if_pos rfl]
/-- A run of digits, from a state that stays. -/
theorem num_run (s : Int) (S : List Int) (f : Nat) (l : List Tok) (hs : ∀ c, dig c = true → num s c = (s, true)) : ∀ (cs : List Int) (i : Int),
    mfin ⟨s, S, f, false, [], 0, l⟩ cs i = mfin ⟨s, S, f, false, [], 0, l⟩ (cs.drop (cs.takeWhile dig).length) (i + (cs.takeWhile dig).length) := by
  intro cs
  induction cs with
  | nil => intro i; simp
  | cons c t ih =>
    intro i
    by_cases hc : dig c = true
    · rw [List.takeWhile_cons_of_pos hc, mfin_ok (feed_num (hs c hc))]
      simp only [List.length_cons, List.drop_succ_cons]
      rw [ih]
      congr 1
      omega
    · rw [List.takeWhile_cons_of_neg hc]; simp
theorem bad_num {s : Int} {S : List Int} {f : Int} {l : List Tok} {c i : Int} (h : (num s c).2 = false) (hs : s = 9 ∨ s = 12 ∨ s = 14 ∨ s = 15) : mfeed ⟨s, S, f, false, [], 0, l⟩ c i = (⟨s, S, f, false, [], 0, l⟩, 5) := by
  have he : endsB s = false := by unfold endsB; simp only [Bool.or_eq_false_iff, beq_eq_false_iff_ne]; omega
  unfold mfeed
  rw [if_neg (show ¬ (num s c).2 = true by rw [h]; decide)]
  rw [if_neg (show ¬ endsB s = true by rw [he]; decide)]
  unfold mrest
  rw [if_neg (show ¬ (s = 6 ∨ s = 7 ∨ s = 8 ∨ s = 17) by omega), if_pos (show s = 9 ∨ s = 12 ∨ s = 14 ∨ s = 15 from hs)]
/-- Digits, one at least: from a state s into a state t that stays. -/
theorem digits_spec (p : List Int) (s t : Int) (S : List Int) (f : Nat) (l : List Tok) (hst : s = 9 ∨ s = 12 ∨ s = 14 ∨ s = 15)
    (h1 : ∀ c, dig c = true → num s c = (t, true)) (ht : ∀ c, dig c = true → num t c = (t, true)) (i : Nat) (hi : i ≤ p.length)
    (h2 : dig (sees p i) = false → i < p.length → (num s (sees p i)).2 = false) :
    ((digitsP p i).1 = true → i < (digitsP p i).2 ∧ (digitsP p i).2 ≤ p.length ∧ dig (sees p (digitsP p i).2) = false ∧ mfin ⟨s, S, f, false, [], 0, l⟩ (p.drop i) i = mfin ⟨t, S, f, false, [], 0, l⟩ (p.drop (digitsP p i).2) ((digitsP p i).2 : Nat)) ∧
    ((digitsP p i).1 = false → (digitsP p i).2 = i ∧ mfin ⟨s, S, f, false, [], 0, l⟩ (p.drop i) i = ([], (i : Int), 5)) := by
  unfold digitsP
  rcases at_or p i hi with ⟨c, hc, hd, hs, hlt⟩ | ⟨he, hn, hd, hs⟩
  · rw [hs] at h2 ⊢
    by_cases hg : dig c = true
    · rw [if_pos hg]
      refine ⟨fun _ => ?_, fun h => by simp at h⟩
      have hlen : ((p.drop i).takeWhile dig).length = ((p.drop (i + 1)).takeWhile dig).length + 1 := by
        rw [hd, List.takeWhile_cons_of_pos hg, List.length_cons]
      have hle := (List.takeWhile_prefix dig (l := p.drop (i + 1))).length_le
      rw [List.length_drop] at hle
      simp only
      rw [hlen]
      refine ⟨by omega, by omega, ?_, ?_⟩
      · have e : p.drop (i + 1 + ((p.drop (i + 1)).takeWhile dig).length) = (p.drop (i + 1)).dropWhile dig := by
          rw [← List.drop_drop]
          generalize p.drop (i + 1) = q
          have e1 := List.takeWhile_append_dropWhile (p := dig) (l := q)
          generalize q.takeWhile dig = a at *
          generalize q.dropWhile dig = b at *
          rw [← e1, List.drop_left]
        rw [show i + (((p.drop (i + 1)).takeWhile dig).length + 1) = i + 1 + ((p.drop (i + 1)).takeWhile dig).length by omega]
        generalize ((p.drop (i + 1)).takeWhile dig).length = n at *
        rcases at_or p (i + 1 + n) (by omega) with ⟨c', hc', hd', hs', _⟩ | ⟨_, _, _, hs'⟩
        · have := List.head?_dropWhile_not dig (p.drop (i + 1))
          rw [← e, hd'] at this
          rw [hs']; simpa using this
        · rw [hs']; rfl
      · rw [hd, mfin_ok (feed_num (h1 c hg)), num_run t S f l ht, List.drop_drop]
        generalize ((p.drop (i + 1)).takeWhile dig).length = n
        rw [show i + 1 + n = i + (n + 1) by omega, show (i : Int) + 1 + (n : Int) = ((i + (n + 1) : Nat) : Int) by omega]
    · rw [if_neg hg]
      have hg' : dig c = false := by simpa using hg
      refine ⟨fun h => by simp at h, fun _ => ⟨rfl, ?_⟩⟩
      rw [hd, mfin_err (bad_num (h2 hg' hlt) hst) (by decide)]
  · rw [hs, if_neg (by decide)]
    refine ⟨fun h => by simp at h, fun _ => ⟨rfl, ?_⟩⟩
    rw [hd, mfin_nil, mend_no]
    · unfold endsB; simp only [Bool.or_eq_false_iff, beq_eq_false_iff_ne]; omega
    · show s ≠ 5; omega
end Go.Proofs.Ytdgdnccpginclaa.JSim
