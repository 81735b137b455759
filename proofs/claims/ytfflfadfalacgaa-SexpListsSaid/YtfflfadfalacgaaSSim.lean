/- Proved: the program's parser of layer 9 as a plain function answers what the reference's machine answers; no condition. -/
import Derived.Test.YtfflfadfalacgaaSParse
namespace Go.Proofs.Ytfflfadfalacgaa.SSim
open Go.Proofs.Ytfflfadfalacgaa.SMem hiding Tok
open  Go.Proofs.Ytfflfadfalacgaa.SPlain Go.Proofs.Ytfflfadfalacgaa.SParse
set_option linter.unusedVariables false
set_option linter.unusedSimpArgs false
/-- The reference's answer from a state on. -/
def mfin (m : Mach) (cs : List Int) (i : Int) : List (Int × Int × Int) × Int × Int :=
  if (mgo m cs i).2.2 = 0 then mend (mgo m cs i).1 (i + cs.length) else ([], (mgo m cs i).2.1, (mgo m cs i).2.2)
theorem mfin_nil (m : Mach) (i : Int) : mfin m [] i = mend m i := by simp [mfin, mgo_nil]
theorem mfin_cons (m : Mach) (c : Int) (cs : List Int) (i : Int) :
    mfin m (c :: cs) i = if (mfeed m c i).2 = 0 then mfin (mfeed m c i).1 cs (i + 1) else ([], i, (mfeed m c i).2) := by
  unfold mfin
  rw [mgo_cons]
  split
  · have : i + ((c :: cs).length : Int) = i + 1 + (cs.length : Int) := by simp; omega
    rw [this]
  · next h => simp [h]
theorem mread_mfin (p : List Int) : mread p = mfin m0 p 0 := by
  unfold mread mfin; simp
theorem part_atom (c : Int) : partB c = isAtom c := by
  unfold partB isAtom
  cases decide (32 < c) <;> cases (c == 40) <;> cases (c == 41) <;> cases (c == 34) <;> cases (c == 39) <;> cases (c == 96) <;> cases (c == 44) <;> cases (c == 59) <;> simp [bne]
theorem mfeed_b {m : Mach} (h4 : m.st ≠ 4) (h5 : m.st ≠ 5) (h3 : m.st ≠ 3) (h2 : m.st ≠ 2) (c i : Int) : mfeed m c i = mrest m c i := by
  unfold mfeed; rw [if_neg h4, if_neg h5, if_neg h3, if_neg h2]
/-- The place frm is not asked in the states 0, 1, 6. -/
theorem mfin_frm (s d x y : Int) (l : List (Int × Int × Int)) (hs : s = 0 ∨ s = 1 ∨ s = 6) (cs : List Int) (i : Int) :
    mfin ⟨s, d, x, l⟩ cs i = mfin ⟨s, d, y, l⟩ cs i := by
  induction cs generalizing s d x y l i with
  | nil =>
    rw [mfin_nil, mfin_nil]; unfold mend mlast
    have h3 : s ≠ 3 := by omega
    simp [h3]
  | cons c cs ih =>
    rw [mfin_cons, mfin_cons]
    have e1 : ∀ z, mfeed ⟨s, d, z, l⟩ c i = mrest ⟨s, d, z, l⟩ c i := fun z => mfeed_b (by show s ≠ 4; omega) (by show s ≠ 5; omega) (by show s ≠ 3; omega) (by show s ≠ 2; omega) c i
    rw [e1, e1]
    unfold mrest
    split
    · simpa using ih s d x y l hs (i + 1)
    · by_cases h6 : s = 6
      · rw [if_pos h6, if_pos h6]
        simp
      · rw [if_neg h6, if_neg h6]
        by_cases hc : c = 41 ∧ s = 1
        · rw [if_pos hc, if_pos hc]
          simp only [mdone, mtok, if_true]
          apply ih
          by_cases hz : d - 1 = 0 <;> simp [hz]
        · rw [if_neg hc, if_neg hc]
          unfold mstart mtok
          simp
def mk (s d : Int) (l : List Tok) : Mach := ⟨s, d, 0, l⟩
theorem skip_le (p : List Int) (i : Nat) (h : i ≤ p.length) : skip p i ≤ p.length := by
  unfold skip
  have h2 := (List.takeWhile_prefix ws (l := p.drop i)).length_le
  rw [List.length_drop] at h2
  omega
theorem skip_ge (p : List Int) (i : Nat) : i ≤ skip p i := by unfold skip; omega
theorem drop_cons {p : List Int} {i : Nat} {c : Int} (h : p[i]? = some c) : p.drop i = c :: p.drop (i + 1) := by
  obtain ⟨hi, e⟩ := List.getElem?_eq_some_iff.1 h
  rw [List.drop_eq_getElem_cons hi, e]
theorem ws_iff (c : Int) : ws c = true ↔ (c = 32 ∨ c = 9 ∨ c = 10 ∨ c = 13) := by
  unfold ws; simp only [Bool.or_eq_true, beq_iff_eq]; omega
theorem skip_stop (p : List Int) (i : Nat) {c : Int} (h : p[skip p i]? = some c) : ws c = false := by
  have hd := drop_cons h
  have e : p.drop (skip p i) = (p.drop i).dropWhile ws := by
    have e2 : p.drop (skip p i) = (p.drop i).drop ((p.drop i).takeWhile ws).length := by
      rw [List.drop_drop]; rfl
    rw [e2]
    generalize p.drop i = q
    have e1 := List.takeWhile_append_dropWhile (p := ws) (l := q)
    generalize q.takeWhile ws = a at *
    generalize q.dropWhile ws = b at *
    rw [← e1, List.drop_left]
  rw [e] at hd
  have := List.head?_dropWhile_not ws (p.drop i)
  rw [hd] at this
  simpa using this
/-- Blanks change nothing in the states 0, 1, 6. -/
theorem mfin_skip (m : Mach) (hs : m.st = 0 ∨ m.st = 1 ∨ m.st = 6) (p : List Int) (i : Nat) :
    mfin m (p.drop i) i = mfin m (p.drop (skip p i)) (skip p i : Nat) := by
  have key : ∀ (cs : List Int) (i : Int), mfin m cs i = mfin m (cs.drop (cs.takeWhile ws).length) (i + (cs.takeWhile ws).length) := by
    intro cs
    induction cs with
    | nil => intro i; simp
    | cons c cs ih =>
      intro i
      by_cases hw : ws c = true
      · rw [mfin_cons, mfeed_b (by omega) (by omega) (by omega) (by omega)]
        unfold mrest
        rw [if_pos ((ws_iff c).1 hw), List.takeWhile_cons_of_pos hw]
        simp only [List.length_cons, List.drop_succ_cons, if_true]
        rw [ih (i + 1)]
        congr 1
        omega
      · rw [List.takeWhile_cons_of_neg hw]; simp
  rw [key]
  unfold skip
  rw [List.drop_drop]
  congr 1
theorem mstart_st (d : Int) (l : List Tok) (c i : Int) : (mstart (mk 1 d l) c i).2 = (mstart (mk 0 d l) c i).2 ∧ ((mstart (mk 0 d l) c i).2 = 0 → (mstart (mk 1 d l) c i).1 = (mstart (mk 0 d l) c i).1) := by
  unfold mstart mtok mk
  by_cases a1 : c = 39 ∨ c = 96
  · simp [if_pos a1]
  · by_cases a2 : c = 44
    · simp [if_neg a1, if_pos a2]
    · by_cases a3 : c = 40
      · by_cases a4 : d = 512
        · simp [a3, a4]
        · simp [a3, a4]
      · by_cases a4 : c = 34
        · simp [a4]
        · by_cases a5 : partB c = true ∧ c ≠ 64
          · simp [a1, a2, a3, a4, a5]
          · simp only [if_neg a1, if_neg a2, if_neg a3, if_neg a4, if_neg a5]; simp
theorem nws {c : Int} (hw : ws c = false) : ¬ (c = 32 ∨ c = 9 ∨ c = 10 ∨ c = 13) := fun h => by rw [(ws_iff c).2 h] at hw; exact absurd hw (by simp)
theorem feed_start (s d : Int) (l : List Tok) (c i : Int) (hs : s = 0 ∨ s = 1) (hw : ws c = false) (hc : s = 1 → c ≠ 41) : mfeed (mk s d l) c i = mstart (mk s d l) c i := by
  rw [mfeed_b (by show s ≠ 4; omega) (by show s ≠ 5; omega) (by show s ≠ 3; omega) (by show s ≠ 2; omega)]
  unfold mrest
  rw [if_neg (nws hw), if_neg (show ¬ (mk s d l).st = 6 from by show ¬ s = 6; omega), if_neg (fun h => hc h.2 h.1)]
theorem mfin_one0 (d : Int) (l : List Tok) (c : Int) (cs : List Int) (i : Int) (hw : ws c = false) (hc : c ≠ 41) :
    mfin (mk 1 d l) (c :: cs) i = mfin (mk 0 d l) (c :: cs) i := by
  rw [mfin_cons, mfin_cons, feed_start 1 d l c i (.inr rfl) hw (fun _ => hc), feed_start 0 d l c i (.inl rfl) hw (fun h => absurd h (by decide))]
  obtain ⟨h1, h2⟩ := mstart_st d l c i
  rw [h1]
  split
  · next h => rw [h2 h]
  · rfl

theorem mfin_frm' (s d x : Int) (l : List Tok) (hs : s = 0 ∨ s = 1 ∨ s = 6) (cs : List Int) (i : Int) : mfin ⟨s, d, x, l⟩ cs i = mfin (mk s d l) cs i := mfin_frm s d x 0 l hs cs i
theorem feed0 (d a : Int) (l : List Tok) (c i : Int) : mfeed ⟨0, d, a, l⟩ c i = mrest ⟨0, d, a, l⟩ c i := by simp [mfeed]
theorem feed2 (d a : Int) (l : List Tok) (c i : Int) : mfeed ⟨2, d, a, l⟩ c i = if c = 64 then (⟨0, d, a, l ++ [(6, a, i + 1 - a)]⟩, 0) else mrest ⟨0, d, a, l ++ [(6, a, i - a)]⟩ c i := by simp [mfeed, mtok]
theorem feed3 (d a : Int) (l : List Tok) (c i : Int) : mfeed ⟨3, d, a, l⟩ c i = if partB c = true then (⟨3, d, a, l⟩, 0) else mrest (mdone ⟨3, d, a, l ++ [(5, a, i - a)]⟩) c i := by simp [mfeed, mtok]
theorem feed4 (d a : Int) (l : List Tok) (c i : Int) : mfeed ⟨4, d, a, l⟩ c i = if c = 34 then (mdone ⟨4, d, a, l ++ [(5, a, i + 1 - a)]⟩, 0) else if c = 92 then (⟨5, d, a, l⟩, 0) else (⟨4, d, a, l⟩, 0) := by simp [mfeed, mtok]
theorem feed5 (d a : Int) (l : List Tok) (c i : Int) : mfeed ⟨5, d, a, l⟩ c i = (⟨4, d, a, l⟩, 0) := by simp [mfeed]
theorem start39 (s d : Int) (l : List Tok) (c i : Int) (hc : c = 39 ∨ c = 96) : mstart (mk s d l) c i = (⟨0, d, i, l ++ [(6, i, 1)]⟩, 0) := by
  unfold mstart; rw [if_pos hc]; simp [mtok, mk]; omega
theorem start44 (s d : Int) (l : List Tok) (i : Int) : mstart (mk s d l) 44 i = (⟨2, d, i, l⟩, 0) := by simp [mstart, mk]
theorem start40 (s d : Int) (l : List Tok) (i : Int) : mstart (mk s d l) 40 i = if d = 512 then (⟨s, d, i, l⟩, 6) else (⟨1, d + 1, i, l ++ [(1, i, 1)]⟩, 0) := by
  have : i + 1 - i = 1 := by omega
  simp [mstart, mk, mtok, this]
theorem start34 (s d : Int) (l : List Tok) (i : Int) : mstart (mk s d l) 34 i = (⟨4, d, i, l⟩, 0) := by simp [mstart, mk]
theorem startA (s d : Int) (l : List Tok) (c i : Int) (h : isAtom c = true) (h2 : c ≠ 64) : mstart (mk s d l) c i = (⟨3, d, i, l⟩, 0) := by
  rw [← part_atom] at h
  have k := h
  unfold partB at k
  simp only [Bool.and_eq_true, Bool.not_eq_true', Bool.or_eq_false_iff, beq_eq_false_iff_ne, decide_eq_true_eq] at k
  unfold mstart
  rw [if_neg (by omega), if_neg (by omega), if_neg (by omega), if_neg (by omega), if_pos ⟨h, h2⟩]; rfl
theorem startE (s d : Int) (l : List Tok) (c i : Int) (h : ¬ (isAtom c = true ∧ c ≠ 64)) (h39 : c ≠ 39) (h96 : c ≠ 96) (h44 : c ≠ 44) (h40 : c ≠ 40) (h34 : c ≠ 34) : (mstart (mk s d l) c i).2 = 5 := by
  rw [← part_atom] at h
  unfold mstart
  rw [if_neg (by omega), if_neg (by omega), if_neg (by omega), if_neg (by omega), if_neg h]
/-- Behind a comma. -/
theorem mfin_comma (d a : Int) (l : List Tok) (cs : List Int) (ha : ∀ c t, cs = c :: t → c ≠ 64) :
    mfin ⟨2, d, a, l⟩ cs (a + 1) = mfin (mk 0 d (l ++ [(6, a, 1)])) cs (a + 1) := by
  have ea : a + 1 - a = 1 := by omega
  cases cs with
  | nil => rw [mfin_nil, mfin_nil]; simp [mend, mlast, mk]
  | cons c t =>
    rw [← mfin_frm' 0 d a _ (.inl rfl), mfin_cons, mfin_cons, feed0, feed2, if_neg (ha c t rfl), ea]
theorem mfin_comma2 (d a : Int) (l : List Tok) (cs : List Int) :
    mfin ⟨2, d, a, l⟩ (64 :: cs) (a + 1) = mfin (mk 0 d (l ++ [(6, a, 2)])) cs (a + 2) := by
  have ea : a + 1 + 1 - a = 2 := by omega
  have eb : a + 1 + 1 = a + 2 := by omega
  rw [mfin_cons, feed2, if_pos rfl, if_pos rfl, eb, show a + 2 - a = 2 by omega]
  exact mfin_frm' 0 d a _ (.inl rfl) _ _
/-- One quote. -/
theorem mfin_quote (d : Int) (l : List Tok) (cs : List Int) (a : Int) (hq : qn cs ≠ 0) :
    mfin (mk 0 d l) cs a = mfin (mk 0 d (l ++ [(6, a, (qn cs : Int))])) (cs.drop (qn cs)) (a + qn cs) := by
  have e1 : ∀ (c : Int) (t : List Int), (c = 39 ∨ c = 96) → mfin (mk 0 d l) (c :: t) a = mfin (mk 0 d (l ++ [(6, a, 1)])) t (a + 1) := by
    intro c t hc
    have hw : ws c = false := by rcases hc with rfl | rfl <;> rfl
    rw [mfin_cons, feed_start 0 d l c a (.inl rfl) hw (fun h => absurd h (by decide))]
    rw [start39 0 d l c a hc, if_pos rfl]
    exact mfin_frm' 0 d a _ (.inl rfl) _ _
  have e2 : ∀ (t : List Int), mfin (mk 0 d l) (44 :: t) a = mfin ⟨2, d, a, l⟩ t (a + 1) := by
    intro t
    rw [mfin_cons, feed_start 0 d l 44 a (.inl rfl) rfl (fun h => absurd h (by decide)), start44, if_pos rfl]
  unfold qn at hq ⊢
  split at hq
  · next t => simp only [List.drop_succ_cons, List.drop_zero]; rw [e2, mfin_comma2]; rfl
  · next t => simp only [List.drop_succ_cons, List.drop_zero]; exact e1 39 t (.inl rfl)
  · next t => simp only [List.drop_succ_cons, List.drop_zero]; exact e1 96 t (.inr rfl)
  · next t hn =>
    have hh : ∀ c t', t = c :: t' → c ≠ 64 := by
      intro c t' e hc; subst hc; exact hn t' (by rw [e])
    simp only [List.drop_succ_cons, List.drop_zero]
    rw [e2, mfin_comma d a l t hh]; rfl
  · exact absurd rfl hq
theorem qn_le (cs : List Int) : qn cs ≤ cs.length := by
  unfold qn; split <;> simp
theorem qn_two (cs : List Int) : qn cs ≤ 2 := by
  unfold qn; split <;> simp
theorem qn_no {c : Int} {t : List Int} (h : qn (c :: t) = 0) : c ≠ 39 ∧ c ≠ 96 ∧ c ≠ 44 := by
  refine ⟨?_, ?_, ?_⟩
  · rintro rfl; simp [qn] at h
  · rintro rfl; simp [qn] at h
  · rintro rfl
    cases t with
    | nil => simp [qn] at h
    | cons c t =>
      by_cases h6 : c = 64
      · subst h6; simp [qn] at h
      · unfold qn at h; split at h <;> simp_all
/-- What quotesP leaves. -/
theorem quotes_spec (p : List Int) : ∀ (f at_ : Nat) (l : List Tok), at_ ≤ p.length → p.length + 1 ≤ at_ + f → l.length ≤ at_ →
    at_ ≤ (quotesP p f at_ l).1 ∧ (quotesP p f at_ l).1 ≤ p.length ∧ (quotesP p f at_ l).2.length ≤ (quotesP p f at_ l).1 ∧
    (∀ c, p[(quotesP p f at_ l).1]? = some c → ws c = false ∧ c ≠ 39 ∧ c ≠ 96 ∧ c ≠ 44) ∧
    ∀ d : Int, mfin (mk 0 d l) (p.drop at_) at_ = mfin (mk 0 d (quotesP p f at_ l).2) (p.drop (quotesP p f at_ l).1) ((quotesP p f at_ l).1 : Nat) := by
  intro f
  induction f with
  | zero => intro at_ l h h2; omega
  | succ f ih =>
    intro at_ l h h2 hl
    have g1 := skip_le p at_ h
    have g2 := skip_ge p at_
    have g3 := fun d : Int => mfin_skip (mk 0 d l) (.inl rfl) p at_
    have g4 := fun c => skip_stop p at_ (c := c)
    unfold quotesP
    simp only
    generalize skip p at_ = a at *
    by_cases ha : a < p.length
    · rw [if_pos ha]
      have hc := List.getElem?_eq_getElem ha
      generalize p[a] = c at hc
      have hd := drop_cons hc
      by_cases hq : qn (p.drop a) = 0
      · rw [if_pos hq]
        rw [hd] at hq
        refine ⟨g2, g1, by show l.length ≤ a; omega, ?_, g3⟩
        intro c' hc'
        have : c' = c := by simp only at hc'; rw [hc] at hc'; simpa using hc'.symm
        subst this
        exact ⟨g4 _ hc, qn_no hq⟩
      · rw [if_neg hq]
        have hle := qn_le (p.drop a)
        rw [List.length_drop] at hle
        have hm := fun d : Int => mfin_quote d l (p.drop a) a hq
        generalize hn : qn (p.drop a) = n at *
        obtain ⟨i1, i2, i3, i4, i5⟩ := ih (a + n) (l ++ [(6, (a : Int), (n : Int))]) (by omega) (by omega) (by simp; omega)
        refine ⟨by omega, i2, i3, i4, fun d => ?_⟩
        rw [g3, hm, List.drop_drop, ← i5]
        rfl
    · rw [if_neg ha]
      refine ⟨g2, g1, by show l.length ≤ a; omega, ?_, g3⟩
      intro c hc
      have := (List.getElem?_eq_some_iff.1 hc).1
      exact absurd this ha

theorem feed41 (d : Int) (l : List Tok) (i : Int) : mfeed (mk 1 d l) 41 i = (mdone ⟨1, d - 1, 0, l ++ [(2, i, 1)]⟩, 0) := by
  have e2 : i + 1 - i = 1 := by omega
  simp [mfeed, mrest, mk, mtok, e2]
theorem feed6 (d : Int) (l : List Tok) (c i : Int) (hw : ws c = false) : mfeed (mk 6 d l) c i = (mk 6 d l, 5) := by
  rw [mfeed_b (show ¬ (6 : Int) = 4 by decide) (show ¬ (6 : Int) = 5 by decide) (show ¬ (6 : Int) = 3 by decide) (show ¬ (6 : Int) = 2 by decide)]
  unfold mrest
  rw [if_neg (nws hw)]
  simp [mk]
def D (d : Int) (l : List Tok) : Mach := mk (if d = 0 then 6 else 1) d l
theorem D_st (d : Int) (l : List Tok) : (D d l).st = 1 ∨ (D d l).st = 6 := by unfold D mk; split <;> simp
theorem mfin_done (s d a : Int) (l : List Tok) (cs : List Int) (i : Int) : mfin (mdone ⟨s, d, a, l⟩) cs i = mfin (D d l) cs i := by
  unfold mdone D
  exact mfin_frm' _ d a l (by split <;> simp) cs i
theorem text_spec (p : List Int) (d a : Int) (l : List Tok) : ∀ (f at_ : Nat), at_ ≤ p.length → p.length + 1 ≤ at_ + f →
    (∀ b, textP p f at_ = some b → at_ < b ∧ b ≤ p.length ∧ mfin ⟨4, d, a, l⟩ (p.drop at_) at_ = mfin (D d (l ++ [(5, a, (b : Int) - a)])) (p.drop b) (b : Nat)) ∧
    (textP p f at_ = none → mfin ⟨4, d, a, l⟩ (p.drop at_) at_ = ([], (p.length : Int), 5)) := by
  intro f
  induction f with
  | zero => intro at_ h h2; omega
  | succ f ih =>
    intro at_ h h2
    unfold textP
    by_cases ha : at_ < p.length
    · have hc := List.getElem?_eq_getElem ha
      generalize p[at_] = c at hc
      rw [hc]
      rw [drop_cons hc, mfin_cons, feed4]
      by_cases c34 : c = 34
      · simp only [if_pos c34, if_true]
        refine ⟨fun b hb => ?_, fun hb => by simp at hb⟩
        simp at hb; subst hb
        refine ⟨by omega, by omega, ?_⟩
        rw [mfin_done]
        norm_cast
      · simp only [if_neg c34]
        by_cases c92 : c = 92
        · simp only [if_pos c92, if_true]
          by_cases he : at_ + 1 = p.length
          · rw [if_pos he]
            refine ⟨fun b hb => by simp at hb, fun _ => ?_⟩
            rw [he, List.drop_length, mfin_nil]
            simp [mend, mlast]; omega
          · rw [if_neg he]
            have hc2 := List.getElem?_eq_getElem (show at_ + 1 < p.length by omega)
            rw [drop_cons hc2, mfin_cons, feed5, if_pos rfl]
            have := ih (at_ + 2) (by omega) (by omega)
            rw [show ((at_ : Int) + 1 + 1) = ((at_ + 2 : Nat) : Int) by omega]
            exact ⟨fun b hb => by have := this.1 b hb; exact ⟨by omega, this.2.1, this.2.2⟩, this.2⟩
        · simp only [if_neg c92, if_true]
          have := ih (at_ + 1) (by omega) (by omega)
          rw [show ((at_ : Int) + 1) = ((at_ + 1 : Nat) : Int) by omega]
          exact ⟨fun b hb => by have := this.1 b hb; exact ⟨by omega, this.2.1, this.2.2⟩, this.2⟩
    · have e : at_ = p.length := by omega
      subst e
      rw [List.getElem?_eq_none (Nat.le_refl _), List.drop_length, mfin_nil]
      refine ⟨fun b hb => by simp at hb, fun _ => ?_⟩
      simp [mend, mlast]
theorem mfin_atoms (d a : Int) (l : List Tok) : ∀ (cs : List Int) (i : Int),
    mfin ⟨3, d, a, l⟩ cs i = mfin (D d (l ++ [(5, a, i + (cs.takeWhile isAtom).length - a)])) (cs.drop (cs.takeWhile isAtom).length) (i + (cs.takeWhile isAtom).length) := by
  intro cs
  induction cs with
  | nil =>
    intro i
    simp only [List.takeWhile_nil, List.length_nil, List.drop_nil]
    rw [mfin_nil, mfin_nil]
    unfold mend mlast
    have hD := D_st d (l ++ [(5, a, i - a)])
    have e0 : i + ((0 : Nat) : Int) - a = i - a := by omega
    have e1 : i + ((0 : Nat) : Int) = i := by omega
    rw [e0, e1, if_pos rfl, if_neg (show ¬ (D d (l ++ [(5, a, i - a)])).st = 3 by omega)]
    by_cases hd : d = 0 <;> simp [mdone, mtok, D, mk, hd]
  | cons c cs ih =>
    intro i
    by_cases hc : isAtom c = true
    · rw [List.takeWhile_cons_of_pos hc, mfin_cons, feed3, if_pos (show partB c = true by rw [part_atom]; exact hc), if_pos rfl, ih]
      simp only [List.length_cons, List.drop_succ_cons]
      rw [show i + 1 + ((cs.takeWhile isAtom).length : Int) = i + ((cs.takeWhile isAtom).length + 1 : Nat) by omega]
    · rw [List.takeWhile_cons_of_neg hc, mfin_cons, feed3, if_neg (show ¬ partB c = true by rw [part_atom]; exact hc)]
      simp only [List.length_nil, List.drop_zero]
      rw [show i + ((0 : Nat) : Int) = i by omega, ← mfin_done 3 d a, mfin_cons]
      have hs : ∀ x : List Tok, (mdone ⟨3, d, a, x⟩).st = 1 ∨ (mdone ⟨3, d, a, x⟩).st = 6 := by intro x; unfold mdone; simp only; split <;> simp
      have hh := hs (l ++ [(5, a, i - a)])
      rw [mfeed_b (m := mdone _) (by omega) (by omega) (by omega) (by omega)]
def res (p : List Int) (d : Nat) : Out → List Tok × Int × Int
  | .ok b l => mfin (D d l) (p.drop b) (b : Nat)
  | .stop e a => ([], (a : Int), e)
def post (p : List Int) (at_ : Nat) : Out → Prop
  | .ok b l => at_ < b ∧ b ≤ p.length ∧ l.length ≤ b
  | .stop e a => a ≤ p.length ∧ (e = 5 ∨ e = 6)
theorem parse_spec (p : List Int) : ∀ f : Nat,
    (∀ (d at_ : Nat) (l : List Tok), at_ ≤ p.length → l.length ≤ at_ → 3 * (p.length - at_) + 1 ≤ f →
      mfin (mk 0 d l) (p.drop at_) at_ = res p d (oneP p f d at_ l) ∧ post p at_ (oneP p f d at_ l)) ∧
    (∀ (d a : Nat) (l : List Tok), p[a]? = some 40 → l.length ≤ a → 3 * (p.length - a) ≤ f →
      mfin (mk 0 d l) (p.drop a) a = res p d (listP p f d a l) ∧ post p a (listP p f d a l)) ∧
    (∀ (d at_ : Nat) (l : List Tok), at_ ≤ p.length → l.length ≤ at_ → 3 * (p.length - at_) + 2 ≤ f →
      mfin (mk 1 ((d : Int) + 1) l) (p.drop at_) at_ = res p d (restP p f d at_ l) ∧ post p at_ (restP p f d at_ l)) := by
  intro f
  induction f with
  | zero => 
    refine ⟨fun d at_ l h h2 h3 => by omega, fun d a l h h2 h3 => ?_, fun d at_ l h h2 h3 => by omega⟩
    have := (List.getElem?_eq_some_iff.1 h).1
    omega
  | succ f ih =>
    obtain ⟨ih1, ih2, ih3⟩ := ih
    refine ⟨?_, ?_, ?_⟩
    · intro d at_ l h h2 h3
      obtain ⟨q1, q2, q3, q4, q5⟩ := quotes_spec p (p.length + 1) at_ l h (by omega) h2
      unfold oneP
      simp only
      generalize hq : quotesP p (p.length + 1) at_ l = q at *
      rw [q5]
      by_cases ha : q.1 < p.length
      · have hc := List.getElem?_eq_getElem ha
        generalize p[q.1] = c at hc
        obtain ⟨k1, k2, k3, k4⟩ := q4 c hc
        rw [hc]
        simp only
        by_cases c40 : c = 40
        · rw [if_pos c40]
          subst c40
          obtain ⟨r1, r2⟩ := ih2 d q.1 q.2 hc q3 (by omega)
          refine ⟨r1, ?_⟩
          revert r2
          cases listP p f d q.1 q.2 with
          | ok b l' => rintro ⟨x1, x2, x3⟩; exact ⟨by omega, x2, x3⟩
          | stop e b => exact fun x => x
        · rw [if_neg c40]
          have hd := drop_cons hc
          by_cases c34 : c = 34
          · rw [if_pos c34]
            subst c34
            obtain ⟨t1, t2⟩ := text_spec p d q.1 q.2 p.length (q.1 + 1) (by omega) (by omega)
            rw [hd, mfin_cons, feed_start 0 d q.2 34 q.1 (.inl rfl) rfl (fun h => absurd h (by decide)), start34, if_pos rfl]
            rw [show ((q.1 : Int) + 1) = ((q.1 + 1 : Nat) : Int) by omega]
            cases hT : textP p p.length (q.1 + 1) with
            | none => exact ⟨t2 hT, Nat.le_refl _, .inl rfl⟩
            | some b =>
              obtain ⟨x1, x2, x3⟩ := t1 b hT
              exact ⟨x3, by omega, x2, by simp; omega⟩
          · rw [if_neg c34]
            by_cases hA : isAtom c = true ∧ c ≠ 64
            · rw [if_pos (by rw [hA.1]; simpa using hA.2)]
              have hlen : ((p.drop q.1).takeWhile isAtom).length = ((p.drop (q.1 + 1)).takeWhile isAtom).length + 1 := by
                rw [hd, List.takeWhile_cons_of_pos hA.1, List.length_cons]
              have hle := (List.takeWhile_prefix isAtom (l := p.drop (q.1 + 1))).length_le
              rw [List.length_drop] at hle
              rw [hlen]
              refine ⟨?_, by omega, by omega, by simp; omega⟩
              rw [hd, mfin_cons, feed_start 0 d q.2 c q.1 (.inl rfl) k1 (fun h => absurd h (by decide)), startA _ _ _ _ _ hA.1 hA.2, if_pos rfl, mfin_atoms, List.drop_drop]
              generalize ((p.drop (q.1 + 1)).takeWhile isAtom).length = n
              show _ = mfin _ _ _
              rw [show (q.1 : Int) + 1 + (n : Int) - (q.1 : Int) = ((n + 1 : Nat) : Int) by omega, show (q.1 : Int) + 1 + (n : Int) = ((q.1 + (n + 1) : Nat) : Int) by omega, show q.1 + 1 + n = q.1 + (n + 1) by omega]
            · rw [if_neg (by intro h; apply hA; simpa using h)]
              refine ⟨?_, by omega, .inl rfl⟩
              have hs := startE 0 d q.2 c q.1 hA k2 k3 k4 c40 c34
              rw [hd, mfin_cons, feed_start 0 d q.2 c q.1 (.inl rfl) k1 (fun h => absurd h (by decide)), if_neg (by rw [hs]; decide), hs]
              rfl
      · rw [List.getElem?_eq_none (by omega)]
        have e : q.1 = p.length := by omega
        refine ⟨?_, by omega, .inl rfl⟩
        rw [e, List.drop_length, mfin_nil]
        simp [mend, mlast, mk, res]
    · intro d a l hc h2 h3
      have ha := (List.getElem?_eq_some_iff.1 hc).1
      unfold listP
      rw [drop_cons hc, mfin_cons, feed_start 0 d l 40 a (.inl rfl) rfl (fun h => absurd h (by decide)), start40]
      by_cases hd : d = 512
      · have hd' : (d : Int) = 512 := by omega
        rw [if_pos hd, if_pos hd']
        exact ⟨rfl, by omega, .inr rfl⟩
      · have hd' : (d : Int) ≠ 512 := by omega
        rw [if_neg hd, if_neg hd', if_pos rfl]
        obtain ⟨r1, r2⟩ := ih3 d (a + 1) (l ++ [(1, (a : Int), 1)]) (by omega) (by simp; omega) (by omega)
        rw [← r1]
        refine ⟨?_, ?_⟩
        · simp only
          rw [mfin_frm' 1 _ _ _ (.inr (.inl rfl))]
          rfl
        · revert r2
          cases restP p f d (a + 1) (l ++ [(1, (a : Int), 1)]) with
          | ok b l' => rintro ⟨x1, x2, x3⟩; exact ⟨by omega, x2, x3⟩
          | stop e b => exact fun x => x
    · intro d at_ l h h2 h3
      have g1 := skip_le p at_ h
      have g2 := skip_ge p at_
      have g3 := mfin_skip (mk 1 ((d : Int) + 1) l) (.inr (.inl rfl)) p at_
      have g4 := fun c => skip_stop p at_ (c := c)
      rw [g3]
      unfold restP
      simp only
      generalize skip p at_ = a at *
      by_cases ha : a < p.length
      · have hc := List.getElem?_eq_getElem ha
        generalize p[a] = c at hc
        have hd := drop_cons hc
        have hw := g4 c hc
        rw [hc]
        simp only
        by_cases c41 : c = 41
        · rw [if_pos c41]
          subst c41
          refine ⟨?_, by omega, by omega, by simp; omega⟩
          rw [hd, mfin_cons, feed41, if_pos rfl]
          simp only
          rw [mfin_done]
          have e1 : (d : Int) + 1 - 1 = d := by omega
          rw [e1]
          rfl
        · rw [if_neg c41]
          obtain ⟨r1, r2⟩ := ih1 (d + 1) a l (by omega) (by omega) (by omega)
          rw [hd, mfin_one0 _ _ _ _ _ hw c41, ← hd]
          rw [show ((d : Int) + 1) = ((d + 1 : Nat) : Int) by omega, r1]
          revert r2
          cases oneP p f (d + 1) a l with
          | stop e b => exact fun x => ⟨rfl, x⟩
          | ok b l' =>
            rintro ⟨x1, x2, x3⟩
            obtain ⟨s1, s2⟩ := ih3 d b l' x2 x3 (by omega)
            simp only
            rw [← s1]
            refine ⟨?_, ?_⟩
            · show mfin (D ((d + 1 : Nat) : Int) l') _ _ = _
              unfold D
              rw [if_neg (by omega)]
              rfl
            · revert s2
              cases restP p f d b l' with
              | ok b' l'' => rintro ⟨y1, y2, y3⟩; exact ⟨by omega, y2, y3⟩
              | stop e b' => exact fun x => x
      · rw [List.getElem?_eq_none (by omega)]
        have e : a = p.length := by omega
        refine ⟨?_, by omega, .inl rfl⟩
        rw [e, List.drop_length, mfin_nil]
        simp [mend, mlast, mk, res]
theorem readP_mread (p : List Int) : readP p = mread p := by
  rw [mread_mfin]
  obtain ⟨h1, h2⟩ := (parse_spec p (4 * p.length + 8)).1 0 0 [] (by omega) (by simp) (by omega)
  unfold readP
  have e : mfin m0 p 0 = mfin (mk 0 ((0 : Nat) : Int) []) (p.drop 0) ((0 : Nat) : Int) := rfl
  rw [e, h1]
  revert h2
  cases oneP p (4 * p.length + 8) 0 0 [] with
  | stop e a => intro _; rfl
  | ok b l =>
    rintro ⟨x1, x2, x3⟩
    simp only [res]
    rw [mfin_skip _ (by have := D_st ((0 : Nat) : Int) l; omega)]
    have g1 := skip_le p b x2
    have g4 := fun c => skip_stop p b (c := c)
    generalize skip p b = a at *
    by_cases ha : a < p.length
    · rw [if_pos ha]
      have hc := List.getElem?_eq_getElem ha
      generalize p[a] = c at hc
      rw [drop_cons hc, mfin_cons]
      have : mfeed (D ((0 : Nat) : Int) l) c a = (mk 6 0 l, 5) := feed6 0 l c a (g4 c hc)
      rw [this, if_neg (show ¬ (5 : Int) = 0 by decide)]
    · rw [if_neg ha, List.drop_of_length_le (by omega), mfin_nil]
      simp [mend, mlast, D, mk]
end Go.Proofs.Ytfflfadfalacgaa.SSim
