/- Plain: blanks ahead of a text shift its answer. -/
import Derived.Test.YtdgdnccpginclaaJW
namespace Go.Proofs.Ytdgdnccpginclaa.JShift
open Go.RowKit Go.Proofs.YtdgdnccpginclaaW.PrintWords Go.Proofs.YtdgdnccpginclaaW.PrintLast Go.Proofs.YtdgdnccpginclaaW.PrintMore
open Go.Proofs.Ytdgdnccpginclaa.JDefs Go.Proofs.Ytdgdnccpginclaa.JBase Go.Proofs.Ytdgdnccpginclaa.JMem Go.Proofs.Ytdgdnccpginclaa.JInv Go.Proofs.Ytdgdnccpginclaa.JRef Go.Proofs.Ytdgdnccpginclaa.JRead Go.Proofs.Ytdgdnccpginclaa.JW
set_option linter.unusedVariables false
set_option linter.unusedSimpArgs false
set_option maxHeartbeats 8000000
set_option maxRecDepth 100000

def shT (n : Int) (t : Tok) : Tok := (t.1, t.2.1 + n, t.2.2)
def shF (n f : Int) (m : Mach) : Mach := ⟨m.st, m.stack, f, m.named, m.left, m.count, m.l.map (shT n)⟩
theorem sh_atom (n : Int) (m : Mach) (i : Int) : matom (shF n (m.frm + n) m) (i + n) = shF n (m.frm + n) (matom m i) := by
  unfold matom shF
  simp only [List.map_append, List.map_cons, List.map_nil, shT]
  have : i + n - (m.frm + n) = i - m.frm := by omega
  rw [this]
theorem sh_one (n f : Int) (m : Mach) (k i s : Int) : mone (shF n f m) k (i + n) s = shF n f (mone m k i s) := by
  unfold mone shF
  simp only [List.map_append, List.map_cons, List.map_nil, shT]
theorem sh_begin (n f : Int) (m : Mach) (c i : Int) : mbegin (shF n f m) c (i + n) = (shF n (i + n) (mbegin m c i).1, (mbegin m c i).2) := by
  unfold mbegin
  simp only [shF, mone]
  by_cases h1 : c = 123 ∨ c = 91
  · by_cases h2 : m.stack.length = 512
    · simp [if_pos h1, h2]
    · by_cases h3 : c = 123
      · simp only [if_pos h1, if_neg h2, if_pos h3, List.map_append, List.map_cons, List.map_nil, shT]
      · simp only [if_pos h1, if_neg h2, if_neg h3, List.map_append, List.map_cons, List.map_nil, shT]
  · simp only [if_neg h1]
    repeat' split
    all_goals rfl
theorem frm_begin (m : Mach) (c i : Int) : (mbegin m c i).1.frm = i := by
  unfold mbegin
  simp only [mone]
  repeat' split
  all_goals rfl
theorem sh_next (n f : Int) (m : Mach) (c i : Int) : mnext (shF n f m) c (i + n) = (shF n f (mnext m c i).1, (mnext m c i).2) := by
  unfold mnext
  show (match m.stack.getLast? with | none => _ | some top => _) = _
  cases hm : m.stack.getLast? with
  | none => rfl
  | some top =>
    simp only [shF, mone]
    repeat' split
    all_goals simp [shF, mone, shT]
theorem live_next (m : Mach) (c i f n : Int) (h : 6 ≤ m.st → f = m.frm + n) : 6 ≤ (mnext m c i).1.st → f = (mnext m c i).1.frm + n := by
  unfold mnext
  split
  · exact h
  · repeat' split
    all_goals first | exact h | exact fun e => absurd (show (6 : Int) ≤ 0 from e) (by decide) | exact fun e => absurd (show (6 : Int) ≤ 3 from e) (by decide) | exact fun e => absurd (show (6 : Int) ≤ 5 from e) (by decide)
theorem sh_inside (n : Int) (m : Mach) (c i : Int) : minside (shF n (m.frm + n) m) c (i + n) = (shF n (m.frm + n) (minside m c i).1, (minside m c i).2) := by
  have ha := sh_atom n m (i + 1)
  have hb := sh_atom n { m with left := [] } (i + 1)
  rw [show i + 1 + n = i + n + 1 by omega] at ha hb
  unfold minside
  show (if m.st = 6 then _ else _) = _
  repeat' split
  all_goals first | rfl | (simp only [ha]; done) | (simp only [Prod.mk.injEq, and_true]; exact hb) | (simp_all [shF]; done)
theorem frm_inside (m : Mach) (c i : Int) : (minside m c i).1.frm = m.frm := by
  unfold minside
  repeat' split
  all_goals rfl
theorem num_live (s c : Int) (h : (num s c).2 = true) : 6 ≤ s := by
  unfold num at h
  by_cases hs : 6 ≤ s
  · exact hs
  · rw [if_neg (show ¬ s = 9 by omega), if_neg (show ¬ (s = 10 ∨ s = 11) by omega), if_neg (show ¬ s = 12 by omega), if_neg (show ¬ s = 13 by omega), if_neg (show ¬ s = 14 by omega), if_neg (show ¬ (s = 15 ∨ s = 16) by omega)] at h
    exact absurd h (by decide)
theorem ends_live (s : Int) (h : endsB s = true) : 6 ≤ s := by
  unfold endsB at h
  simp only [Bool.or_eq_true, beq_iff_eq] at h
  omega
theorem sh_rest (n f : Int) (m : Mach) (c i : Int) (h : 6 ≤ m.st → f = m.frm + n) : ∃ f', mrest (shF n f m) c (i + n) = (shF n f' (mrest m c i).1, (mrest m c i).2) ∧ (6 ≤ (mrest m c i).1.st → f' = (mrest m c i).1.frm + n) := by
  unfold mrest
  by_cases h1 : m.st = 6 ∨ m.st = 7 ∨ m.st = 8 ∨ m.st = 17
  · rw [if_pos h1, if_pos (show (shF n f m).st = 6 ∨ (shF n f m).st = 7 ∨ (shF n f m).st = 8 ∨ (shF n f m).st = 17 from h1), h (by omega)]
    exact ⟨_, sh_inside n m c i, fun _ => by rw [frm_inside]⟩
  · rw [if_neg h1, if_neg (show ¬ ((shF n f m).st = 6 ∨ (shF n f m).st = 7 ∨ (shF n f m).st = 8 ∨ (shF n f m).st = 17) from h1)]
    by_cases h2 : m.st = 9 ∨ m.st = 12 ∨ m.st = 14 ∨ m.st = 15
    · rw [if_pos h2, if_pos (show (shF n f m).st = 9 ∨ (shF n f m).st = 12 ∨ (shF n f m).st = 14 ∨ (shF n f m).st = 15 from h2)]
      exact ⟨f, rfl, h⟩
    · rw [if_neg h2, if_neg (show ¬ ((shF n f m).st = 9 ∨ (shF n f m).st = 12 ∨ (shF n f m).st = 14 ∨ (shF n f m).st = 15) from h2)]
      by_cases h3 : c = 32 ∨ c = 9 ∨ c = 10 ∨ c = 13
      · rw [if_pos h3, if_pos h3]; exact ⟨f, rfl, h⟩
      · rw [if_neg h3, if_neg h3]
        by_cases h4 : m.st = 0
        · rw [if_pos h4, if_pos (show (shF n f m).st = 0 from h4)]
          exact ⟨_, sh_begin n f m c i, fun _ => by rw [frm_begin]⟩
        · rw [if_neg h4, if_neg (show ¬ (shF n f m).st = 0 from h4)]
          by_cases h5 : m.st = 1
          · rw [if_pos h5, if_pos (show (shF n f m).st = 1 from h5)]
            by_cases h6 : c = 93
            · rw [if_pos h6, if_pos h6]; exact ⟨_, sh_next n f m c i, live_next m c i f n h⟩
            · rw [if_neg h6, if_neg h6]; exact ⟨_, sh_begin n f m c i, fun _ => by rw [frm_begin]⟩
          · rw [if_neg h5, if_neg (show ¬ (shF n f m).st = 1 from h5)]
            by_cases h6 : m.st = 2 ∨ m.st = 3
            · rw [if_pos h6, if_pos (show (shF n f m).st = 2 ∨ (shF n f m).st = 3 from h6)]
              by_cases h7 : c = 125 ∧ m.st = 2
              · rw [if_pos h7, if_pos (show c = 125 ∧ (shF n f m).st = 2 from h7)]; exact ⟨_, sh_next n f m c i, live_next m c i f n h⟩
              · rw [if_neg h7, if_neg (show ¬ (c = 125 ∧ (shF n f m).st = 2) from h7)]
                by_cases h8 : c = 34
                · rw [if_pos h8, if_pos h8]; exact ⟨i + n, rfl, fun _ => rfl⟩
                · rw [if_neg h8, if_neg h8]; exact ⟨f, rfl, h⟩
            · rw [if_neg h6, if_neg (show ¬ ((shF n f m).st = 2 ∨ (shF n f m).st = 3) from h6)]
              by_cases h7 : m.st = 4
              · rw [if_pos h7, if_pos (show (shF n f m).st = 4 from h7)]
                by_cases h8 : c = 58
                · rw [if_pos h8, if_pos h8, sh_one]; exact ⟨f, rfl, fun e => absurd (show (6 : Int) ≤ 0 from e) (by decide)⟩
                · rw [if_neg h8, if_neg h8]; exact ⟨f, rfl, h⟩
              · rw [if_neg h7, if_neg (show ¬ (shF n f m).st = 4 from h7)]
                exact ⟨_, sh_next n f m c i, live_next m c i f n h⟩
theorem sh_feed (n f : Int) (m : Mach) (c i : Int) (h : 6 ≤ m.st → f = m.frm + n) : ∃ f', mfeed (shF n f m) c (i + n) = (shF n f' (mfeed m c i).1, (mfeed m c i).2) ∧ (6 ≤ (mfeed m c i).1.st → f' = (mfeed m c i).1.frm + n) := by
  unfold mfeed
  show ∃ f', (if (num m.st c).2 = true then _ else _) = _ ∧ _
  by_cases h1 : (num m.st c).2 = true
  · rw [if_pos h1, if_pos h1]
    exact ⟨f, rfl, fun _ => h (num_live _ _ h1)⟩
  · rw [if_neg h1, if_neg h1]
    show ∃ f', mrest (if endsB m.st = true then matom (shF n f m) (i + n) else shF n f m) c (i + n) = _ ∧ _
    by_cases h2 : endsB m.st = true
    · rw [if_pos h2, if_pos h2, h (ends_live _ h2), sh_atom]
      exact sh_rest n _ _ c i (fun _ => rfl)
    · rw [if_neg h2, if_neg h2]
      exact sh_rest n f m c i h
theorem sh_go (n : Int) (p : List Int) : ∀ (m : Mach) (f i : Int), (6 ≤ m.st → f = m.frm + n) → ∃ f', mgo (shF n f m) p (i + n) = (shF n f' (mgo m p i).1, (mgo m p i).2.1 + n, (mgo m p i).2.2) ∧ (6 ≤ (mgo m p i).1.st → f' = (mgo m p i).1.frm + n) := by
  induction p with
  | nil => intro m f i h; rw [mgo_nil, mgo_nil]; exact ⟨f, rfl, h⟩
  | cons c t ih =>
    intro m f i h
    obtain ⟨f1, e1, k1⟩ := sh_feed n f m c i h
    rw [mgo_cons, mgo_cons, e1]
    show ∃ f', (if (mfeed m c i).2 = 0 then _ else _) = _ ∧ _
    by_cases hz : (mfeed m c i).2 = 0
    · rw [if_pos hz, if_pos hz, show i + n + 1 = i + 1 + n by omega]
      exact ih _ _ _ k1
    · rw [if_neg hz, if_neg hz]
      exact ⟨f1, rfl, k1⟩
theorem go_blanks (bl p : List Int) (h : ∀ c ∈ bl, c = 32 ∨ c = 9 ∨ c = 10 ∨ c = 13) : ∀ i : Int, mgo m0 (bl ++ p) i = mgo m0 p (i + bl.length) := by
  induction bl with
  | nil => intro i; simp
  | cons c t ih =>
    intro i
    have e : mfeed m0 c i = (m0, 0) := by
      unfold mfeed
      rw [if_neg (by simp [m0, num]), if_neg (by simp [m0, endsB])]
      unfold mrest
      rw [if_neg (by simp [m0]), if_neg (by simp [m0]), if_pos (h c (by simp))]
    rw [List.cons_append, mgo_cons, e, if_pos rfl, ih (fun x hx => h x (by simp [hx]))]
    simp only [List.length_cons]
    congr 1
    omega
theorem blanks_law (bl p : List Int) (h : ∀ c ∈ bl, c = 32 ∨ c = 9 ∨ c = 10 ∨ c = 13) : mread (bl ++ p) = ((mread p).1.map (shT bl.length), if (mread p).2.2 = 0 then 0 else (mread p).2.1 + bl.length, (mread p).2.2) := by
  obtain ⟨f', e, k⟩ := sh_go bl.length p m0 0 0 (fun e => absurd (show (6 : Int) ≤ 0 from e) (by decide))
  have hm : shF bl.length 0 m0 = m0 := rfl
  rw [hm] at e
  unfold mread
  rw [go_blanks bl p h 0, e]
  simp only
  by_cases hz : (mgo m0 p 0).2.2 = 0
  · rw [if_pos hz, if_pos hz]
    generalize (mgo m0 p 0).1 = m at k
    have hl : mlast (shF bl.length f' m) ((bl ++ p).length : Int) = shF bl.length f' (mlast m p.length) := by
      unfold mlast
      show (if endsB m.st = true then _ else _) = _
      by_cases he : endsB m.st = true
      · rw [if_pos he, if_pos he, k (ends_live _ he)]
        rw [show ((bl ++ p).length : Int) = (p.length : Int) + bl.length by simp; omega, sh_atom]
      · rw [if_neg he, if_neg he]
    unfold mend
    rw [hl]
    show (if (mlast m p.length).st = 5 ∧ m.stack = [] then _ else _) = _
    by_cases hq : (mlast m p.length).st = 5 ∧ m.stack = []
    · rw [if_pos hq, if_pos hq]; rfl
    · rw [if_neg hq, if_neg hq]; simp; omega
  · rw [if_neg hz, if_neg hz]
    simp only [List.map_nil]
    rw [if_neg hz]
end Go.Proofs.Ytdgdnccpginclaa.JShift
