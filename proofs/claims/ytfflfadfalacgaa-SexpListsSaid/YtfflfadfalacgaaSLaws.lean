/- Proved: plain laws of the reference's machine of layer 9: atoms, texts, the first byte that is wrong; no condition. -/
import Derived.Test.YtfflfadfalacgaaSSim
namespace Go.Proofs.Ytfflfadfalacgaa.SLaws
open Go.Proofs.Ytfflfadfalacgaa.SMem hiding Tok
open  Go.Proofs.Ytfflfadfalacgaa.SPlain Go.Proofs.Ytfflfadfalacgaa.SParse Go.Proofs.Ytfflfadfalacgaa.SSim
set_option linter.unusedVariables false
set_option linter.unusedSimpArgs false
theorem m0_mk : m0 = mk 0 0 [] := rfl
theorem mend_D0 (l : List Tok) (n : Int) : mend (D 0 l) n = (l, 0, 0) := by simp [mend, mlast, D, mk]
/-- One atom. -/
theorem atoms_law (p : List Int) (h : ∀ c ∈ p, isAtom c = true) : mread (97 :: p) = ([(5, 0, (p.length : Int) + 1)], 0, 0) := by
  have e : p.takeWhile isAtom = p := by
    induction p with
    | nil => rfl
    | cons c t ih => rw [List.takeWhile_cons_of_pos (h c (by simp)), ih (fun x hx => h x (by simp [hx]))]
  rw [mread_mfin, m0_mk, mfin_cons, feed_start 0 0 [] 97 0 (.inl rfl) rfl (fun h => absurd h (by decide)), startA _ _ _ _ _ rfl (by decide), if_pos rfl, mfin_atoms, e, List.drop_length, mfin_nil]
  simp only [List.nil_append]
  rw [mend_D0]
  simp; omega
def esc : List Int → List Int
  | [] => []
  | c :: t => if c = 34 ∨ c = 92 then 92 :: c :: esc t else c :: esc t
theorem esc_append (a b : List Int) : esc (a ++ b) = esc a ++ esc b := by
  induction a with
  | nil => rfl
  | cons c t ih => simp only [List.cons_append, esc]; split <;> simp [ih]
theorem mfin_esc (d a : Int) (l : List Tok) (p cs : List Int) : ∀ i : Int, mfin ⟨4, d, a, l⟩ (esc p ++ cs) i = mfin ⟨4, d, a, l⟩ cs (i + (esc p).length) := by
  induction p with
  | nil => intro i; simp [esc]
  | cons c t ih =>
    intro i
    by_cases hc : c = 34 ∨ c = 92
    · simp only [esc, if_pos hc, List.cons_append]
      rw [mfin_cons, feed4, if_neg (show ¬ (92 : Int) = 34 by decide), if_pos (show (92 : Int) = 92 from rfl), if_pos rfl, mfin_cons, feed5, if_pos rfl, ih]
      congr 1
      simp; omega
    · simp only [esc, if_neg hc, List.cons_append]
      rw [mfin_cons, feed4, if_neg (show ¬ c = 34 by omega), if_neg (show ¬ c = 92 by omega), if_pos rfl, ih]
      congr 1
      simp; omega
theorem texts_law (p : List Int) : mread (34 :: (esc p ++ [34])) = ([(5, 0, ((esc p).length : Int) + 2)], 0, 0) ∧ mread (34 :: esc p) = ([], ((esc p).length : Int) + 1, 5) := by
  have hs : ∀ cs : List Int, mread (34 :: cs) = mfin ⟨4, 0, 0, []⟩ cs 1 := by
    intro cs
    rw [mread_mfin, m0_mk, mfin_cons, feed_start 0 0 [] 34 0 (.inl rfl) rfl (fun h => absurd h (by decide)), start34, if_pos rfl]
    rfl
  constructor
  · rw [hs, mfin_esc, mfin_cons, feed4, if_pos rfl, if_pos rfl, mfin_done, mfin_nil]
    simp only [List.nil_append]
    rw [mend_D0]
    simp; omega
  · have := mfin_esc 0 0 [] p [] 1
    rw [List.append_nil] at this
    rw [hs, this, mfin_nil]
    simp [mend, mlast]; omega
/-- Where the machine stops: what stands ahead decides. -/
theorem mgo_stop (m : Mach) (p : List Int) (i : Int) (h : (mgo m p i).2.2 ≠ 0) :
    ∃ k : Nat, k < p.length ∧ (mgo m p i).2.1 = i + k ∧ (∀ more, (mgo m (p.take (k + 1) ++ more) i).2 = (mgo m p i).2) ∧ (mgo m (p.take k) i).2.2 = 0 := by
  induction p generalizing m i with
  | nil => exact absurd rfl h
  | cons c t ih =>
    by_cases hz : (mfeed m c i).2 = 0
    · rw [mgo_cons, if_pos hz] at h ⊢
      obtain ⟨k, h1, h2, h3, h4⟩ := ih _ _ h
      refine ⟨k + 1, by simp; omega, by rw [h2]; simp; omega, fun more => ?_, ?_⟩
      · rw [List.take_succ_cons, List.cons_append, mgo_cons, if_pos hz]; exact h3 more
      · rw [List.take_succ_cons, mgo_cons, if_pos hz]; exact h4
    · rw [mgo_cons, if_neg hz]
      refine ⟨0, by simp, by simp, fun more => ?_, by simp [mgo_nil]⟩
      rw [List.take_succ_cons, List.cons_append, mgo_cons, if_neg hz]
theorem least_law (p more : List Int) (he : (mread p).2.2 ≠ 0) (ha : (mread p).2.1 ≠ p.length) :
    ∃ k : Nat, k < p.length ∧ (mread p).2.1 = k ∧ (mread (p.take (k + 1) ++ more)).2 = (mread p).2 ∧ ((mread (p.take k)).2.2 = 0 ∨ ((mread (p.take k)).2.2 = 5 ∧ (mread (p.take k)).2.1 = k)) := by
  have hz : (mgo m0 p 0).2.2 ≠ 0 := by
    intro hz
    have : mread p = mend (mgo m0 p 0).1 p.length := by unfold mread; rw [if_pos hz]
    rw [this] at he ha
    unfold mend at he ha
    split at he
    · exact he rfl
    · next hh => rw [if_neg hh] at ha; exact ha rfl
  have e : mread p = ([], (mgo m0 p 0).2.1, (mgo m0 p 0).2.2) := by unfold mread; rw [if_neg hz]
  obtain ⟨k, h1, h2, h3, h4⟩ := mgo_stop m0 p 0 hz
  refine ⟨k, h1, by rw [e]; simp only; rw [h2]; omega, ?_, ?_⟩
  · unfold mread
    rw [if_neg hz, if_neg (by rw [h3 more]; exact hz)]
    simp only
    rw [h3 more]
  · unfold mread
    rw [if_pos h4]
    unfold mend
    split
    · exact .inl rfl
    · right
      refine ⟨rfl, ?_⟩
      simp only [List.length_take]
      omega
theorem wrong_end (p : List Int) (ha : (mread p).2.1 = p.length) (hp : 0 < p.length) : (mread p).2.2 = 5 := by
  unfold mread at ha ⊢
  by_cases hz : (mgo m0 p 0).2.2 = 0
  · rw [if_pos hz] at ha ⊢
    unfold mend at ha ⊢
    split at ha
    · simp only at ha; omega
    · next hh => rw [if_neg hh]
  · rw [if_neg hz] at ha
    obtain ⟨k, h1, h2, _⟩ := mgo_stop m0 p 0 hz
    simp only at ha
    omega
theorem mread_err (p : List Int) : (mread p).2.2 = 0 ∨ (mread p).2.2 = 5 ∨ (mread p).2.2 = 6 := by
  rw [← readP_mread]
  obtain ⟨h1, h2⟩ := (parse_spec p (4 * p.length + 8)).1 0 0 [] (by omega) (by simp) (by omega)
  unfold readP
  revert h2
  cases oneP p (4 * p.length + 8) 0 0 [] with
  | stop e a => rintro ⟨_, h⟩; exact .inr h
  | ok b l => intro _; simp only; split <;> simp
theorem mread_at (p : List Int) : 0 ≤ (mread p).2.1 ∧ (mread p).2.1 ≤ p.length ∧ ((mread p).2.2 = 0 → (mread p).2.1 = 0) ∧ ((mread p).2.2 ≠ 0 → (mread p).1 = []) ∧ (mread p).1.length ≤ p.length := by
  rw [← readP_mread]
  obtain ⟨h1, h2⟩ := (parse_spec p (4 * p.length + 8)).1 0 0 [] (by omega) (by simp) (by omega)
  unfold readP
  revert h2
  cases oneP p (4 * p.length + 8) 0 0 [] with
  | stop e a => rintro ⟨h, h2⟩; refine ⟨by show 0 ≤ (a : Int); omega, by show (a : Int) ≤ _; omega, fun h => ?_, fun _ => rfl, by simp⟩; simp only at h; omega
  | ok b l =>
    rintro ⟨x1, x2, x3⟩
    have := skip_le p b x2
    simp only
    split
    · exact ⟨by show 0 ≤ ((skip p b : Nat) : Int); omega, by show ((skip p b : Nat) : Int) ≤ _; omega, fun h => absurd h (show ¬ (5 : Int) = 0 by decide), fun _ => rfl, by simp⟩
    · exact ⟨by simp, by simp, fun _ => rfl, fun h => absurd rfl h, by show l.length ≤ _; omega⟩
end Go.Proofs.Ytfflfadfalacgaa.SLaws
