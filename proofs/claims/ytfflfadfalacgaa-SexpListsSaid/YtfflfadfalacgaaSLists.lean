/- Proved: plain laws of the reference's machine of layer 9: expressions in parentheses, lists in one another; lengths up to 500. -/
import Derived.Test.YtfflfadfalacgaaSLaws
namespace Go.Proofs.Ytfflfadfalacgaa.SLists
open Go.Proofs.Ytfflfadfalacgaa.SMem hiding Tok
open  Go.Proofs.Ytfflfadfalacgaa.SPlain Go.Proofs.Ytfflfadfalacgaa.SParse Go.Proofs.Ytfflfadfalacgaa.SSim Go.Proofs.Ytfflfadfalacgaa.SLaws
set_option linter.unusedVariables false
set_option linter.unusedSimpArgs false
def shift (k : Int) (l : List Tok) : List Tok := l.map fun t => (t.1, t.2.1 + k, t.2.2)
theorem shift_snoc (k : Int) (l : List Tok) (t : Tok) : shift k (l ++ [t]) = shift k l ++ [(t.1, t.2.1 + k, t.2.2)] := by simp [shift]
structure Rel (k : Int) (L : List Tok) (A B : Mach) : Prop where
  dep : B.dep = A.dep + 1
  d0 : 0 ≤ A.dep
  l : B.l = L ++ shift k A.l
  frm : A.st = 2 ∨ A.st = 3 ∨ A.st = 4 ∨ A.st = 5 → B.frm = A.frm + k
  st : B.st = A.st ∧ (A.st = 0 ∨ A.st = 2 ∨ A.st = 3 ∨ A.st = 4 ∨ A.st = 5) ∨ A.st = 1 ∧ B.st = 1 ∧ A.dep ≠ 0 ∨ A.st = 0 ∧ B.st = 1 ∨ A.st = 6 ∧ B.st = 1 ∧ A.dep = 0
theorem rel_tok {k : Int} {L : List Tok} {A B : Mach} (h : Rel k L A B) (kd a b : Int) : Rel k L (mtok A kd a b) (mtok B kd (a + k) (b + k)) := by
  obtain ⟨h1, h2, h3, h4, h5⟩ := h
  refine ⟨h1, h2, ?_, h4, h5⟩
  show B.l ++ _ = L ++ shift k (A.l ++ _)
  rw [shift_snoc, h3, List.append_assoc]
  have : b + k - (a + k) = b - a := by omega
  rw [this]
theorem rel_done {k : Int} {L : List Tok} {A B : Mach} (h : Rel k L A B) : Rel k L (mdone A) (mdone B) := by
  obtain ⟨h1, h2, h3, h4, h5⟩ := h
  have hb : (mdone B).st = 1 := by unfold mdone; rw [if_neg (by omega)]
  by_cases hz : A.dep = 0
  · have ha : (mdone A).st = 6 := by unfold mdone; rw [if_pos hz]
    exact ⟨h1, h2, h3, fun h => by omega, .inr (.inr (.inr ⟨ha, hb, hz⟩))⟩
  · have ha : (mdone A).st = 1 := by unfold mdone; rw [if_neg hz]
    exact ⟨h1, h2, h3, fun h => by omega, .inr (.inl ⟨ha, hb, hz⟩)⟩
theorem rel_start {k : Int} {L : List Tok} {A B : Mach} (h : Rel k L A B) (c i : Int) (hA : (mstart A c i).2 = 0) (hd : A.dep < 511) :
    (mstart B c (i + k)).2 = 0 ∧ Rel k L (mstart A c i).1 (mstart B c (i + k)).1 := by
  obtain ⟨h1, h2, h3, h4, h5⟩ := h
  have ek : i + k + 1 = i + 1 + k := by omega
  unfold mstart at hA ⊢
  by_cases a1 : c = 39 ∨ c = 96
  · rw [if_pos a1, if_pos a1]
    refine ⟨rfl, h1, h2, ?_, fun h => by revert h; simp, .inl ⟨rfl, .inl rfl⟩⟩
    show B.l ++ _ = L ++ shift k (A.l ++ _)
    rw [shift_snoc, h3, List.append_assoc]
    simp; omega
  · rw [if_neg a1] at hA ⊢
    rw [if_neg a1]
    by_cases a2 : c = 44
    · rw [if_pos a2, if_pos a2]
      exact ⟨rfl, h1, h2, h3, fun _ => rfl, .inl ⟨rfl, .inr (.inl rfl)⟩⟩
    · rw [if_neg a2] at hA ⊢
      rw [if_neg a2]
      by_cases a3 : c = 40
      · rw [if_pos a3] at hA ⊢
        rw [if_pos a3, if_neg (show ¬ A.dep = 512 by omega), if_neg (show ¬ B.dep = 512 by omega)]
        refine ⟨rfl, ?_, ?_, ?_, fun h => by revert h; simp, .inr (.inl ⟨rfl, rfl, ?_⟩)⟩
        · show B.dep + 1 = A.dep + 1 + 1; omega
        · show 0 ≤ A.dep + 1; omega
        · show B.l ++ _ = L ++ shift k (A.l ++ _)
          rw [shift_snoc, h3, List.append_assoc]
          simp; omega
        · show A.dep + 1 ≠ 0; omega
      · rw [if_neg a3] at hA ⊢
        rw [if_neg a3]
        by_cases a4 : c = 34
        · rw [if_pos a4, if_pos a4]
          exact ⟨rfl, h1, h2, h3, fun _ => rfl, .inl ⟨rfl, .inr (.inr (.inr (.inl rfl)))⟩⟩
        · rw [if_neg a4] at hA ⊢
          rw [if_neg a4]
          by_cases a5 : partB c = true ∧ c ≠ 64
          · rw [if_pos a5, if_pos a5]
            exact ⟨rfl, h1, h2, h3, fun _ => rfl, .inl ⟨rfl, .inr (.inr (.inl rfl))⟩⟩
          · rw [if_neg a5] at hA
            exact absurd hA (show ¬ (5 : Int) = 0 by decide)
theorem rel_rest {k : Int} {L : List Tok} {A B : Mach} (h : Rel k L A B) (hs : A.st = 0 ∨ A.st = 1 ∨ A.st = 6) (c i : Int) (hA : (mrest A c i).2 = 0) (hd : A.dep < 511) :
    (mrest B c (i + k)).2 = 0 ∧ Rel k L (mrest A c i).1 (mrest B c (i + k)).1 := by
  have h5 := h.st
  have h1 := h.dep
  have h2 := h.d0
  unfold mrest at hA ⊢
  by_cases a1 : c = 32 ∨ c = 9 ∨ c = 10 ∨ c = 13
  · rw [if_pos a1, if_pos a1]; exact ⟨rfl, h⟩
  · rw [if_neg a1] at hA ⊢
    rw [if_neg a1]
    by_cases a2 : A.st = 6
    · rw [if_pos a2] at hA
      exact absurd hA (show ¬ (5 : Int) = 0 by decide)
    · rw [if_neg a2] at hA ⊢
      rw [if_neg (show ¬ B.st = 6 by omega)]
      by_cases a3 : c = 41 ∧ A.st = 1
      · rw [if_pos a3, if_pos (show c = 41 ∧ B.st = 1 from ⟨a3.1, by omega⟩)]
        refine ⟨rfl, ?_⟩
        have hb : ∀ m : Mach, ∀ kd a b, (mtok m kd a b).dep = m.dep := fun _ _ _ _ => rfl
        have e : B.dep - 1 = (A.dep - 1) + 1 := by omega
        have hr : Rel k L { A with dep := A.dep - 1, st := 0 } { B with dep := B.dep - 1, st := 0 } := ⟨e, by show 0 ≤ A.dep - 1; omega, h.l, fun h => by revert h; simp, .inl ⟨rfl, .inl rfl⟩⟩
        have := rel_done (rel_tok hr 2 i (i + 1))
        rw [show i + 1 + k = i + k + 1 by omega] at this
        exact this
      · rw [if_neg a3] at hA ⊢
        have hn : ¬ (c = 41 ∧ B.st = 1) := by
          rintro ⟨hc, hb⟩
          have h0 : A.st = 0 := by omega
          subst hc
          unfold mstart at hA
          rw [if_neg (show ¬ ((41 : Int) = 39 ∨ (41 : Int) = 96) by decide), if_neg (show ¬ (41 : Int) = 44 by decide), if_neg (show ¬ (41 : Int) = 40 by decide), if_neg (show ¬ (41 : Int) = 34 by decide), if_neg (show ¬ (partB 41 = true ∧ (41 : Int) ≠ 64) by decide)] at hA
          exact absurd hA (show ¬ (5 : Int) = 0 by decide)
        rw [if_neg hn]
        exact rel_start h c i hA hd
theorem rel_feed {k : Int} {L : List Tok} {A B : Mach} (h : Rel k L A B) (c i : Int) (hA : (mfeed A c i).2 = 0) (hd : A.dep < 511) :
    (mfeed B c (i + k)).2 = 0 ∧ Rel k L (mfeed A c i).1 (mfeed B c (i + k)).1 := by
  have h5 := h.st
  have h4 := h.frm
  have h1 := h.dep
  have h2 := h.d0
  have hl := h.l
  unfold mfeed at hA ⊢
  by_cases a4 : A.st = 4
  · have b4 : B.st = 4 := by omega
    have ef := h4 (by omega)
    rw [if_pos a4, if_pos b4]
    by_cases q : c = 34
    · rw [if_pos q, if_pos q, ef, show i + k + 1 = i + 1 + k by omega]
      exact ⟨rfl, rel_done (rel_tok h 5 _ _)⟩
    · rw [if_neg q, if_neg q]
      by_cases q2 : c = 92
      · rw [if_pos q2, if_pos q2]
        exact ⟨rfl, h1, h2, hl, fun _ => ef, .inl ⟨rfl, .inr (.inr (.inr (.inr rfl)))⟩⟩
      · rw [if_neg q2, if_neg q2]; exact ⟨rfl, h⟩
  · rw [if_neg a4] at hA ⊢
    rw [if_neg (show ¬ B.st = 4 by omega)]
    by_cases a5 : A.st = 5
    · have ef := h4 (by omega)
      rw [if_pos a5, if_pos (show B.st = 5 by omega)]
      exact ⟨rfl, h1, h2, hl, fun _ => ef, .inl ⟨rfl, .inr (.inr (.inr (.inl rfl)))⟩⟩
    · rw [if_neg a5] at hA ⊢
      rw [if_neg (show ¬ B.st = 5 by omega)]
      by_cases a3 : A.st = 3
      · have ef := h4 (by omega)
        rw [if_pos a3] at hA ⊢
        rw [if_pos (show B.st = 3 by omega)]
        by_cases q : partB c = true
        · rw [if_pos q, if_pos q]; exact ⟨rfl, h⟩
        · rw [if_neg q] at hA ⊢
          rw [if_neg q, ef]
          refine rel_rest (rel_done (rel_tok h 5 _ _)) ?_ c i hA hd
          unfold mdone; simp only; split <;> simp
      · rw [if_neg a3] at hA ⊢
        rw [if_neg (show ¬ B.st = 3 by omega)]
        by_cases a2 : A.st = 2
        · have ef := h4 (by omega)
          have hr : Rel k L { A with st := 0 } { B with st := 0 } := ⟨h1, h2, hl, fun h => by revert h; simp, .inl ⟨rfl, .inl rfl⟩⟩
          rw [if_pos a2] at hA ⊢
          rw [if_pos (show B.st = 2 by omega)]
          by_cases q : c = 64
          · rw [if_pos q, if_pos q, show i + k + 1 = i + 1 + k by omega]
            have := rel_tok hr 6 A.frm (i + 1)
            rw [← ef] at this
            exact ⟨rfl, this⟩
          · rw [if_neg q] at hA ⊢
            rw [if_neg q]
            have := rel_tok hr 6 A.frm i
            rw [← ef] at this
            exact rel_rest this (.inl rfl) c i hA hd
        · rw [if_neg a2] at hA ⊢
          rw [if_neg (show ¬ B.st = 2 by omega)]
          exact rel_rest h (by omega) c i hA hd
theorem dep_done (m : Mach) : (mdone m).dep = m.dep := rfl
theorem dep_rest (m : Mach) (c i : Int) : (mrest m c i).1.dep ≤ m.dep + 1 := by
  unfold mrest
  split
  · simp only; omega
  · split
    · simp only; omega
    · split
      · show m.dep - 1 ≤ _; omega
      · unfold mstart
        split
        · show m.dep ≤ _; omega
        · split
          · show m.dep ≤ _; omega
          · split
            · split
              · show m.dep ≤ _; omega
              · show m.dep + 1 ≤ _; omega
            · split
              · show m.dep ≤ _; omega
              · split
                · show m.dep ≤ _; omega
                · show m.dep ≤ _; omega
theorem dep_feed (m : Mach) (c i : Int) : (mfeed m c i).1.dep ≤ m.dep + 1 := by
  unfold mfeed
  split
  · split
    · show m.dep ≤ _; omega
    · split
      · show m.dep ≤ _; omega
      · show m.dep ≤ _; omega
  · split
    · show m.dep ≤ _; omega
    · split
      · split
        · show m.dep ≤ _; omega
        · exact dep_rest _ _ _
      · split
        · split
          · show m.dep ≤ _; omega
          · exact dep_rest _ _ _
        · exact dep_rest _ _ _
theorem mgo_append (m : Mach) (a b : List Int) (i : Int) (h : (mgo m a i).2.2 = 0) : mgo m (a ++ b) i = mgo (mgo m a i).1 b (i + a.length) := by
  induction a generalizing m i with
  | nil => simp [mgo_nil]
  | cons c t ih =>
    rw [List.cons_append, mgo_cons, mgo_cons] at *
    by_cases hz : (mfeed m c i).2 = 0
    · rw [if_pos hz] at h
      rw [if_pos hz, if_pos hz, ih _ _ h]
      congr 1
      simp; omega
    · rw [if_neg hz] at h; exact absurd h hz
theorem rel_go {k : Int} {L : List Tok} (p : List Int) : ∀ {A B : Mach} (i : Int), Rel k L A B → (mgo A p i).2.2 = 0 → A.dep + p.length < 511 →
    (mgo B p (i + k)).2.2 = 0 ∧ Rel k L (mgo A p i).1 (mgo B p (i + k)).1 := by
  induction p with
  | nil => intro A B i h _ _; exact ⟨rfl, h⟩
  | cons c t ih =>
    intro A B i h hA hd
    simp only [List.length_cons] at hd
    rw [mgo_cons] at hA
    rw [mgo_cons A]
    by_cases hz : (mfeed A c i).2 = 0
    · rw [if_pos hz] at hA ⊢
      obtain ⟨r1, r2⟩ := rel_feed h c i hz (by omega)
      have hdep := dep_feed A c i
      rw [mgo_cons, if_pos r1, show i + k + 1 = i + 1 + k by omega]
      exact ih (i + 1) r2 hA (by omega)
    · rw [if_neg hz] at hA; exact absurd hA hz
/-- An expression that may be, in a list: the machine stands behind it as ahead of it, its tokens are laid on. -/
theorem inside_go (p : List Int) (l : List Tok) (hp : mread p = (l, 0, 0)) (hl : p.length ≤ 500) (k : Int) (L : List Tok) (f : Int) :
    (mgo ⟨1, 1, f, L⟩ p k).2.2 = 0 ∧ ((mgo ⟨1, 1, f, L⟩ p k).1.st = 1 ∧ (mgo ⟨1, 1, f, L⟩ p k).1.dep = 1 ∧ (mgo ⟨1, 1, f, L⟩ p k).1.l = L ++ shift k l ∨
      (mgo ⟨1, 1, f, L⟩ p k).1.st = 3 ∧ (mgo ⟨1, 1, f, L⟩ p k).1.dep = 1 ∧ (mgo ⟨1, 1, f, L⟩ p k).1.l ++ [(5, (mgo ⟨1, 1, f, L⟩ p k).1.frm, k + p.length - (mgo ⟨1, 1, f, L⟩ p k).1.frm)] = L ++ shift k l) := by
  have hz : (mgo m0 p 0).2.2 = 0 := by
    by_cases hz : (mgo m0 p 0).2.2 = 0
    · exact hz
    · unfold mread at hp; rw [if_neg hz] at hp
      exact absurd (congrArg (fun z => z.2.2) hp) hz
  have hr : Rel k L m0 ⟨1, 1, f, L⟩ := ⟨rfl, by decide, by simp [shift, m0], fun h => by revert h; simp [m0], .inr (.inr (.inl ⟨rfl, rfl⟩))⟩
  obtain ⟨r1, r2⟩ := rel_go p 0 hr hz (by show (0 : Int) + p.length < 511; omega)
  rw [show (0 : Int) + k = k by omega] at r1 r2
  refine ⟨r1, ?_⟩
  unfold mread at hp
  rw [if_pos hz] at hp
  unfold mend at hp
  generalize (mgo m0 p 0).1 = A at *
  generalize (mgo ⟨1, 1, f, L⟩ p k).1 = B at *
  have h6 : (mlast A p.length).st = 6 := by
    by_cases h6 : (mlast A p.length).st = 6
    · exact h6
    · rw [if_neg h6] at hp
      exact absurd (congrArg (fun z => z.2.2) hp) (show ¬ (5 : Int) = 0 by decide)
  rw [if_pos h6] at hp
  have hl' : (mlast A p.length).l = l := congrArg (fun z => z.1) hp
  obtain ⟨h1, h2, h3, h4, h5⟩ := r2
  unfold mlast at h6 hl'
  by_cases s3 : A.st = 3
  · rw [if_pos s3] at h6 hl'
    have d0 : A.dep = 0 := by
      unfold mdone mtok at h6; simp only at h6
      by_cases hz : A.dep = 0
      · exact hz
      · rw [if_neg hz] at h6; simp at h6
    right
    refine ⟨by omega, by omega, ?_⟩
    have hl2 : A.l ++ [(5, A.frm, (p.length : Int) - A.frm)] = l := hl'
    rw [h3, ← hl2, shift_snoc, h4 (by omega), List.append_assoc]
    have : k + (p.length : Int) - (A.frm + k) = (p.length : Int) - A.frm := by omega
    rw [this]
  · rw [if_neg s3] at h6 hl'
    left
    exact ⟨by omega, by omega, by rw [h3, hl']⟩
theorem lists_law (p q : List Int) (l m : List Tok) (hp : mread p = (l, 0, 0)) (hq : mread q = (m, 0, 0)) (hlp : p.length ≤ 500) (hlq : q.length ≤ 500) :
    mread (39 :: 40 :: (p ++ 32 :: (q ++ [41]))) = ((6, 0, 1) :: (1, 1, 1) :: (shift 2 l ++ (shift (p.length + 3) m ++ [(2, (p.length : Int) + q.length + 3, 1)])), 0, 0) := by
  obtain ⟨a1, a2⟩ := inside_go p l hp hlp 2 [(6, 0, 1), (1, 1, 1)] 1
  rw [mread_mfin, m0_mk, mfin_cons, feed_start 0 0 [] 39 0 (.inl rfl) rfl (fun h => absurd h (by decide)), start39 _ _ _ _ _ (.inl rfl), if_pos rfl]
  simp only
  rw [mfin_frm' 0 _ _ _ (.inl rfl), mfin_cons, feed_start 0 _ _ 40 _ (.inl rfl) rfl (fun h => absurd h (by decide)), start40, if_neg (show ¬ (0 : Int) = 512 by decide), if_pos rfl]
  simp only [List.nil_append, List.cons_append]
  rw [show (0 : Int) + 1 + 1 = 2 by decide, show (0 : Int) + 1 = 1 by decide]
  have step : ∀ (B : Mach) (L : List Tok) (i : Int) (cs : List Int), (B.st = 1 ∧ B.dep = 1 ∧ B.l = L ∨ B.st = 3 ∧ B.dep = 1 ∧ B.l ++ [(5, B.frm, i - B.frm)] = L) → mfin B (32 :: cs) i = mfin (mk 1 1 L) cs (i + 1) := by
    intro B L i cs h
    obtain ⟨st, dep, frm, l⟩ := B
    rcases h with ⟨h1, h2, h3⟩ | ⟨h1, h2, h3⟩
    · simp only at h1 h2 h3; subst h1 h2 h3
      rw [mfin_frm' 1 _ _ _ (.inr (.inl rfl)), mfin_cons]
      have : mfeed (mk 1 1 l) 32 i = (mk 1 1 l, 0) := by simp [mfeed, mrest, mk]
      rw [this, if_pos rfl]
    · simp only at h1 h2 h3; subst h1 h2 h3
      rw [mfin_cons]
      have : mfeed ⟨3, 1, frm, l⟩ 32 i = (⟨1, 1, frm, l ++ [(5, frm, i - frm)]⟩, 0) := by
        rw [feed3, if_neg (by decide)]
        simp [mrest, mdone]
      rw [this, if_pos rfl]
      exact mfin_frm' 1 1 _ _ (.inr (.inl rfl)) _ _
  have last : ∀ (B : Mach) (L : List Tok) (i : Int), (B.st = 1 ∧ B.dep = 1 ∧ B.l = L ∨ B.st = 3 ∧ B.dep = 1 ∧ B.l ++ [(5, B.frm, i - B.frm)] = L) → mfin B [41] i = (L ++ [(2, i, 1)], 0, 0) := by
    intro B L i h
    have e1 : i + 1 - i = 1 := by omega
    obtain ⟨st, dep, frm, l⟩ := B
    rcases h with ⟨h1, h2, h3⟩ | ⟨h1, h2, h3⟩
    · simp only at h1 h2 h3; subst h1 h2 h3
      rw [mfin_cons, mfin_nil]
      simp [mfeed, mrest, mdone, mtok, mend, mlast, e1]
    · simp only at h1 h2 h3; subst h1 h2 h3
      rw [mfin_cons, mfin_nil, feed3, if_neg (show ¬ partB 41 = true by decide)]
      simp [mrest, mdone, mtok, mend, mlast, e1]
  have app : ∀ (B : Mach) (a b : List Int) (i : Int), (mgo B a i).2.2 = 0 → mfin B (a ++ b) i = mfin (mgo B a i).1 b (i + a.length) := by
    intro B a b i h
    unfold mfin
    rw [mgo_append _ _ _ _ h]
    simp only [List.length_append]
    rw [show i + ((a.length + b.length : Nat) : Int) = i + a.length + b.length by omega]
  rw [app _ p _ _ a1, step _ _ _ _ a2]
  obtain ⟨b1, b2⟩ := inside_go q m hq hlq (2 + p.length + 1) ([(6, 0, 1), (1, 1, 1)] ++ shift 2 l) 0
  show mfin ⟨1, 1, 0, _⟩ _ _ = _
  rw [app _ q _ _ b1, last _ _ _ b2]
  simp only [List.append_assoc, List.cons_append, List.nil_append]
  rw [show (2 : Int) + p.length + 1 = p.length + 3 by omega, show (p.length : Int) + 3 + q.length = p.length + q.length + 3 by omega]
/-- Lists in one another: what stands ahead of the closing signs. -/
def opens (by_ : Nat → Bool) : Nat → Nat → List Int
  | _, 0 => []
  | i, k + 1 => (if by_ i then [39] else []) ++ 40 :: opens by_ (i + 1) k
theorem opens_add (b : Nat → Bool) (i k j : Nat) : opens b i (k + j) = opens b i k ++ opens b (i + k) j := by
  induction k generalizing i with
  | zero => simp [opens]
  | succ k ih => rw [show k + 1 + j = (k + j) + 1 by omega]; simp only [opens]; rw [ih, show i + 1 + k = i + (k + 1) by omega]; simp
theorem opens_go (b : Nat → Bool) (cs : List Int) : ∀ (k i : Nat) (l : List Tok) (at_ : Int), i + k ≤ 512 →
    ∃ l' : List Tok, l.length + k ≤ l'.length ∧ mfin (mk (if i = 0 then 0 else 1) i l) (opens b i k ++ cs) at_ = mfin (mk (if i + k = 0 then 0 else 1) ((i + k : Nat) : Int) l') cs (at_ + (opens b i k).length) := by
  intro k
  induction k with
  | zero => intro i l at_ h; exact ⟨l, by omega, by simp [opens]⟩
  | succ k ih =>
    intro i l at_ h
    have hs : (if i = 0 then (0 : Int) else 1) = 0 ∨ (if i = 0 then (0 : Int) else 1) = 1 := by split <;> simp
    have one : ∀ (s : Int) (l : List Tok) (cs : List Int) (at_ : Int), s = 0 ∨ s = 1 → mfin (mk s i l) (40 :: cs) at_ = mfin (mk 1 ((i + 1 : Nat) : Int) (l ++ [(1, at_, 1)])) cs (at_ + 1) := by
      intro s l cs at_ hs
      rw [mfin_cons, feed_start s _ _ 40 _ hs rfl (fun _ => by decide), start40, if_neg (show ¬ (i : Int) = 512 by omega), if_pos rfl]
      rw [mfin_frm' 1 _ _ _ (.inr (.inl rfl))]
      rfl
    by_cases hb : b i = true
    · simp only [opens, hb, if_true, List.cons_append, List.nil_append]
      rw [mfin_cons, feed_start _ _ _ 39 _ hs rfl (fun _ => by decide), start39 _ _ _ _ _ (.inl rfl), if_pos rfl]
      simp only
      rw [mfin_frm' 0 _ _ _ (.inl rfl), one 0 _ _ _ (.inl rfl)]
      obtain ⟨l', h1, h2⟩ := ih (i + 1) (l ++ [(6, at_, 1)] ++ [(1, at_ + 1, 1)]) (at_ + 1 + 1) (by omega)
      rw [if_neg (by omega)] at h2
      refine ⟨l', by simp at h1; omega, ?_⟩
      rw [h2]
      rw [if_neg (by omega), if_neg (by omega), show i + 1 + k = i + (k + 1) by omega]
      congr 1
      simp; omega
    · simp only [opens, hb, List.cons_append, List.nil_append]
      simp only [Bool.false_eq_true, if_false, List.nil_append, List.cons_append]
      rw [one _ _ _ _ hs]
      obtain ⟨l', h1, h2⟩ := ih (i + 1) (l ++ [(1, at_, 1)]) (at_ + 1) (by omega)
      rw [if_neg (by omega)] at h2
      refine ⟨l', by simp at h1; omega, ?_⟩
      rw [h2]
      rw [if_neg (by omega), if_neg (by omega), show i + 1 + k = i + (k + 1) by omega]
      congr 1
      simp; omega
theorem closes_go : ∀ (k : Nat) (l : List Tok) (at_ : Int), ∃ l', l.length ≤ l'.length ∧ l'.length = l.length + k + 1 ∧ mfin (mk 1 ((k + 1 : Nat) : Int) l) (List.replicate (k + 1) 41) at_ = (l', 0, 0) := by
  intro k
  induction k with
  | zero =>
    intro l at_
    refine ⟨l ++ [(2, at_, 1)], by simp, by simp, ?_⟩
    rw [List.replicate_succ, mfin_cons, feed41, if_pos rfl, mfin_done]
    simp only [List.replicate_zero]
    rw [mfin_nil]
    exact mend_D0 _ _
  | succ k ih =>
    intro l at_
    obtain ⟨l', h0, h1, h2⟩ := ih (l ++ [(2, at_, 1)]) (at_ + 1)
    refine ⟨l', by simp at h0; omega, by rw [h1]; simp; omega, ?_⟩
    rw [List.replicate_succ, mfin_cons, feed41, if_pos rfl, mfin_done]
    rw [show ((k + 1 + 1 : Nat) : Int) - 1 = ((k + 1 : Nat) : Int) by omega]
    unfold D
    rw [if_neg (by omega)]
    exact h2
theorem deep_ok (b : Nat → Bool) (k : Nat) (hk : k ≤ 512) (h0 : 0 < k) : ∃ l, 2 * k ≤ l.length ∧ mread (opens b 0 k ++ List.replicate k 41) = (l, 0, 0) := by
  obtain ⟨l1, h1, h2⟩ := opens_go b (List.replicate k 41) k 0 [] 0 (by omega)
  obtain ⟨j, rfl⟩ : ∃ j, k = j + 1 := ⟨k - 1, by omega⟩
  obtain ⟨l2, h3, h4, h5⟩ := closes_go j l1 (0 + (opens b 0 (j + 1)).length)
  refine ⟨l2, by simp at h1; omega, ?_⟩
  rw [mread_mfin, m0_mk]
  rw [if_pos rfl, if_neg (by omega), show 0 + (j + 1) = j + 1 by omega] at h2
  exact h2.trans h5
theorem deep_bad (b : Nat → Bool) (k : Nat) (hk : 512 < k) (cs : List Int) : mread (opens b 0 k ++ cs) = ([], (((opens b 0 512).length + (if b 512 then 1 else 0) : Nat) : Int), 6) := by
  obtain ⟨j, rfl⟩ : ∃ j, k = 512 + (j + 1) := ⟨k - 513, by omega⟩
  obtain ⟨l1, h1, h2⟩ := opens_go b (opens b 512 (j + 1) ++ cs) 512 0 [] 0 (by omega)
  rw [if_pos rfl, if_neg (by omega)] at h2
  rw [opens_add, List.append_assoc, mread_mfin, m0_mk]
  refine h2.trans ?_
  generalize (opens b 0 512).length = n
  have one : ∀ (s : Int) (l : List Tok) (cs : List Int) (at_ : Int), s = 0 ∨ s = 1 → mfin (mk s 512 l) (40 :: cs) at_ = ([], at_, 6) := by
    intro s l cs at_ hs
    rw [mfin_cons, feed_start s _ _ 40 _ hs rfl (fun _ => by decide), start40, if_pos rfl, if_neg (show ¬ (6 : Int) = 0 by decide)]
  show mfin (mk 1 512 l1) _ _ = _
  by_cases hb : b 512 = true
  · simp only [opens, hb, if_true, List.cons_append, List.nil_append]
    rw [mfin_cons, feed_start _ _ _ 39 _ (.inr rfl) rfl (fun _ => by decide), start39 _ _ _ _ _ (.inl rfl), if_pos rfl]
    simp only
    rw [mfin_frm' 0 _ _ _ (.inl rfl), one 0 _ _ _ (.inl rfl)]
    simp
  · simp only [opens, hb, List.cons_append, List.nil_append]
    simp only [Bool.false_eq_true, if_false, List.nil_append, List.cons_append]
    rw [one 1 _ _ _ (.inr rfl)]
    simp
theorem deep_none : mread [] = ([], 0, 5) := by decide +kernel
end Go.Proofs.Ytfflfadfalacgaa.SLists
