/- Plain: what is wrong at a byte is wrong there whatever follows; what the answers of the reference's Read may be. -/
import Derived.Test.YtdgdnccpginclaaJW
namespace Go.Proofs.Ytdgdnccpginclaa.JLaws
open Go.RowKit Go.Proofs.YtdgdnccpginclaaW.PrintWords Go.Proofs.YtdgdnccpginclaaW.PrintLast Go.Proofs.YtdgdnccpginclaaW.PrintMore
open Go.Proofs.Ytdgdnccpginclaa.JDefs Go.Proofs.Ytdgdnccpginclaa.JBase Go.Proofs.Ytdgdnccpginclaa.JMem Go.Proofs.Ytdgdnccpginclaa.JInv Go.Proofs.Ytdgdnccpginclaa.JRef Go.Proofs.Ytdgdnccpginclaa.JRead Go.Proofs.Ytdgdnccpginclaa.JW
set_option linter.unusedVariables false
set_option linter.unusedSimpArgs false
set_option maxHeartbeats 8000000
set_option maxRecDepth 100000
theorem mgo_stop (m : Mach) (p : List Int) (i : Int) (h : (mgo m p i).2.2 ≠ 0) :
    ∃ k : Nat, k < p.length ∧ (mgo m p i).2.1 = i + k ∧ (∀ more, (mgo m (p.take (k + 1) ++ more) i).2 = (mgo m p i).2) ∧ (mgo m (p.take k) i).2.2 = 0 := by
  induction p generalizing m i with
  | nil => exact absurd rfl h
  | cons c t ih =>
    by_cases hz : (mfeed m c i).2 = 0
    · rw [mgo_cons, if_pos hz] at h ⊢
      obtain ⟨k, h1, h2, h3, h4⟩ := ih _ _ h
      refine ⟨k + 1, by simp; omega, by rw [h2]; simp; omega, fun more => ?_, ?_⟩
      · rw [List.take_succ_cons, List.cons_append, mgo_cons, if_pos hz]; exact h3 more
      · rw [List.take_succ_cons, mgo_cons, if_pos hz]; exact h4
    · rw [mgo_cons, if_neg hz]
      refine ⟨0, by simp, by simp, fun more => ?_, by simp [mgo_nil]⟩
      rw [List.take_succ_cons, List.cons_append, mgo_cons, if_neg hz]
theorem least_law (p more : List Int) (he : (mread p).2.2 ≠ 0) (ha : (mread p).2.1 ≠ p.length) :
    ∃ k : Nat, k < p.length ∧ (mread p).2.1 = k ∧ (mread (p.take (k + 1) ++ more)).2 = (mread p).2 ∧ ((mread (p.take k)).2.2 = 0 ∨ ((mread (p.take k)).2.2 = 5 ∧ (mread (p.take k)).2.1 = k)) := by
  have hz : (mgo m0 p 0).2.2 ≠ 0 := by
    intro hz
    have : mread p = mend (mgo m0 p 0).1 p.length := by unfold mread; rw [if_pos hz]
    rw [this] at he ha
    unfold mend at he ha
    split at he
    · exact he rfl
    · next hh => rw [if_neg hh] at ha; exact ha rfl
  have e : mread p = ([], (mgo m0 p 0).2.1, (mgo m0 p 0).2.2) := by unfold mread; rw [if_neg hz]
  obtain ⟨k, h1, h2, h3, h4⟩ := mgo_stop m0 p 0 hz
  refine ⟨k, h1, by rw [e]; simp only; rw [h2]; omega, ?_, ?_⟩
  · unfold mread
    rw [if_neg hz, if_neg (by rw [h3 more]; exact hz)]
    simp only
    rw [h3 more]
  · unfold mread
    rw [if_pos h4]
    unfold mend
    split
    · exact .inl rfl
    · right
      refine ⟨rfl, ?_⟩
      simp only [List.length_take]
      omega
theorem wrong_end (p : List Int) (ha : (mread p).2.1 = p.length) (hp : 0 < p.length) : (mread p).2.2 = 5 := by
  unfold mread at ha ⊢
  by_cases hz : (mgo m0 p 0).2.2 = 0
  · rw [if_pos hz] at ha ⊢
    unfold mend at ha ⊢
    split at ha
    · simp only at ha; omega
    · next hh => rw [if_neg hh]
  · rw [if_neg hz] at ha
    obtain ⟨k, h1, h2, _⟩ := mgo_stop m0 p 0 hz
    simp only at ha
    omega

theorem err_inside (m : Mach) (c i : Int) : (minside m c i).2 = 0 ∨ (minside m c i).2 = 5 ∨ (minside m c i).2 = 6 := by
  unfold minside
  repeat' split
  all_goals simp
theorem err_begin (m : Mach) (c i : Int) : (mbegin m c i).2 = 0 ∨ (mbegin m c i).2 = 5 ∨ (mbegin m c i).2 = 6 := by
  unfold mbegin
  simp only
  repeat' split
  all_goals simp
theorem err_next (m : Mach) (c i : Int) : (mnext m c i).2 = 0 ∨ (mnext m c i).2 = 5 ∨ (mnext m c i).2 = 6 := by
  unfold mnext
  repeat' split
  all_goals simp
theorem err_rest (m : Mach) (c i : Int) : (mrest m c i).2 = 0 ∨ (mrest m c i).2 = 5 ∨ (mrest m c i).2 = 6 := by
  have h1 := err_inside m c i
  have h2 := err_begin m c i
  have h3 := err_next m c i
  unfold mrest
  repeat' split
  all_goals first | assumption | simp
theorem err_feed (m : Mach) (c i : Int) : (mfeed m c i).2 = 0 ∨ (mfeed m c i).2 = 5 ∨ (mfeed m c i).2 = 6 := by
  unfold mfeed
  split
  · simp
  · exact err_rest _ c i
theorem err_go (p : List Int) : ∀ (m : Mach) (i : Int), (mgo m p i).2.2 = 0 ∨ (mgo m p i).2.2 = 5 ∨ (mgo m p i).2.2 = 6 := by
  induction p with
  | nil => intro m i; rw [mgo_nil]; exact .inl rfl
  | cons c t ih =>
    intro m i
    rw [mgo_cons]
    split
    · exact ih _ _
    · exact err_feed m c i
theorem mread_err (p : List Int) : (mread p).2.2 = 0 ∨ (mread p).2.2 = 5 ∨ (mread p).2.2 = 6 := by
  unfold mread
  split
  · unfold mend
    split
    · exact .inl rfl
    · exact .inr (.inl rfl)
  · exact err_go p m0 0
theorem mread_nil (p : List Int) (h : (mread p).2.2 ≠ 0) : (mread p).1 = [] := by
  unfold mread at h ⊢
  split
  · next hz =>
    rw [if_pos hz] at h
    unfold mend at h ⊢
    split
    · next hh => rw [if_pos hh] at h; exact absurd rfl h
    · rfl
  · rfl
theorem mread_zero (p : List Int) (h : (mread p).2.2 = 0) : (mread p).2.1 = 0 := by
  unfold mread at h ⊢
  split
  · next hz =>
    rw [if_pos hz] at h
    unfold mend at h ⊢
    split
    · rfl
    · next hh => rw [if_neg hh] at h; exact absurd (show (5 : Int) = 0 from h) (by decide)
  · next hz => rw [if_neg hz] at h; exact absurd h hz
theorem empty_read : mread [] = ([], 0, 5) := by decide +kernel
end Go.Proofs.Ytdgdnccpginclaa.JLaws
