/- Proved: plain: numbers, words, texts of layer 8: the machine answers as the parser; no condition. -/
import Derived.Test.YtdgdnccpginclaaJSim
namespace Go.Proofs.Ytdgdnccpginclaa.JSimb
open Go.Proofs.Ytdgdnccpginclaa.JDefs Go.Proofs.Ytdgdnccpginclaa.JSim
set_option linter.unusedVariables false
set_option linter.unusedSimpArgs false
/-- A part of a number from a state on: where it ends, or what is wrong. -/
def NumR (p : List Int) (s : Int) (S : List Int) (f : Nat) (l : List Tok) (i : Nat) (r : Bool × Nat) : Prop :=
  i ≤ r.2 ∧ r.2 ≤ p.length ∧ mfin ⟨s, S, f, false, [], 0, l⟩ (p.drop i) i = resB p (A 5 S f l) r
theorem numR_step {p : List Int} {s t : Int} {S : List Int} {f : Nat} {l : List Tok} {i j : Nat} {r : Bool × Nat} (h : NumR p t S f l j r) (hij : i ≤ j)
    (e : mfin ⟨s, S, f, false, [], 0, l⟩ (p.drop i) i = mfin ⟨t, S, f, false, [], 0, l⟩ (p.drop j) (j : Nat)) : NumR p s S f l i r :=
  ⟨by have := h.1; omega, h.2.1, e.trans h.2.2⟩
theorem numR_one {p : List Int} {s t : Int} {S : List Int} {f : Nat} {l : List Tok} {i : Nat} {c : Int} {r : Bool × Nat} (hc : p[i]? = some c) (hn : num s c = (t, true)) (h : NumR p t S f l (i + 1) r) : NumR p s S f l i r :=
  numR_step h (by omega) (by rw [drop_cons hc, mfin_ok (feed_num hn)]; rfl)
/-- A number ends here. -/
theorem numR_end {p : List Int} {s : Int} {S : List Int} {f : Nat} {l : List Tok} {i : Nat} (hi : i ≤ p.length) (hs : endsB s = true) (h : i < p.length → (num s (sees p i)).2 = false) : NumR p s S f l i (true, i) := by
  refine ⟨Nat.le_refl _, hi, num_end s S f l hs _ (fun c t e => ?_) i⟩
  rcases at_or p i hi with ⟨c', hc, hd, hs', hlt⟩ | ⟨he, hn, hd, hs'⟩
  · rw [hd] at e; cases e
    have := h hlt; rw [hs'] at this; exact this
  · rw [hd] at e; cases e
/-- Digits, and what comes behind them. -/
theorem numR_digits {p : List Int} {s t : Int} {S : List Int} {f : Nat} {l : List Tok} {i : Nat} (K : Nat → Bool × Nat) (hst : s = 9 ∨ s = 12 ∨ s = 14 ∨ s = 15)
    (h1 : ∀ c, dig c = true → num s c = (t, true)) (ht : ∀ c, dig c = true → num t c = (t, true)) (hi : i ≤ p.length)
    (h2 : dig (sees p i) = false → i < p.length → (num s (sees p i)).2 = false)
    (hK : ∀ j, j ≤ p.length → dig (sees p j) = false → NumR p t S f l j (K j)) :
    NumR p s S f l i (if (digitsP p i).1 then K (digitsP p i).2 else digitsP p i) := by
  obtain ⟨k1, k2⟩ := digits_spec p s t S f l hst h1 ht i hi h2
  cases h : (digitsP p i).1 with
  | true =>
    obtain ⟨x1, x2, x3, x4⟩ := k1 h
    rw [if_pos rfl]
    exact numR_step (hK _ x2 x3) (by omega) x4
  | false =>
    obtain ⟨x1, x2⟩ := k2 h
    rw [if_neg (by decide)]
    have e : digitsP p i = (false, i) := Prod.ext h x1
    rw [e]
    exact ⟨Nat.le_refl _, hi, x2⟩
theorem num16 (c : Int) : num 16 c = (16, dig c) := by simp [num]
theorem num15 (c : Int) : num 15 c = (16, dig c) := by simp [num]
theorem num12 (c : Int) : num 12 c = (13, dig c) := by simp [num]
theorem num14 (c : Int) : num 14 c = if c = 43 ∨ c = 45 then (15, true) else (16, dig c) := by simp [num]
theorem num13 (c : Int) : num 13 c = if c = 101 ∨ c = 69 then (14, true) else (13, dig c) := by simp [num]
theorem num9 (c : Int) : num 9 c = if c = 48 then (10, true) else (11, dig c) := by simp [num]
theorem num10 (c : Int) : num 10 c = if c = 46 then (12, true) else if c = 101 ∨ c = 69 then (14, true) else (11, false) := by simp [num]
theorem num11 (c : Int) : num 11 c = if c = 46 then (12, true) else if c = 101 ∨ c = 69 then (14, true) else (11, dig c) := by simp [num]
theorem ite_same {b : Bool} {r : Bool × Nat} (h : r.1 = b) : (if r.1 then (true, r.2) else r) = r := by
  cases hb : r.1 with
  | true => rw [if_pos rfl, ← hb]
  | false => rw [if_neg (by decide)]
theorem numR_pow {p : List Int} {S : List Int} {f : Nat} {l : List Tok} {i : Nat} (s : Int) (hs : s = 14 ∨ s = 15) (hi : i ≤ p.length) (h14 : s = 14 → ¬ (sees p i = 43 ∨ sees p i = 45)) : NumR p s S f l i (digitsP p i) := by
  have hn : ∀ c, (s = 14 → ¬ (c = 43 ∨ c = 45)) → num s c = (16, dig c) := by
    intro c hc
    rcases hs with rfl | rfl
    · rw [num14, if_neg (hc rfl)]
    · exact num15 c
  have := numR_digits (p := p) (s := s) (t := 16) (S := S) (f := f) (l := l) (i := i) (fun j => (true, j)) (by omega)
    (fun c hc => by rw [hn c (fun _ => by have := (dig_iff c).1 hc; omega), hc]) (fun c hc => by rw [num16, hc]) hi
    (fun hd _ => by rw [hn _ h14, hd]) (fun j hj hd => numR_end hj rfl (fun _ => by rw [num16, hd]))
  rw [ite_same rfl] at this
  exact this
theorem numR_exp {p : List Int} {S : List Int} {f : Nat} {l : List Tok} {i : Nat} (s : Int) (hs : s = 10 ∨ s = 11 ∨ s = 13) (hi : i ≤ p.length)
    (hd : s ≠ 10 → dig (sees p i) = false) (h46 : s ≠ 13 → sees p i ≠ 46) : NumR p s S f l i (expP p i) := by
  unfold expP
  by_cases he : sees p i = 101 ∨ sees p i = 69
  · rw [if_pos he]
    rcases at_or p i hi with ⟨c, hc, hdr, hse, hlt⟩ | ⟨_, _, _, hse⟩
    · rw [hse] at he
      have hn : num s c = (14, true) := by
        rcases hs with rfl | rfl | rfl
        · rw [num10, if_neg (by omega), if_pos he]
        · rw [num11, if_neg (by omega), if_pos he]
        · rw [num13, if_pos he]
      refine numR_one hc hn ?_
      by_cases hsg : sees p (i + 1) = 43 ∨ sees p (i + 1) = 45
      · rw [if_pos hsg]
        rcases at_or p (i + 1) (by omega) with ⟨c', hc', hdr', hse', hlt'⟩ | ⟨_, _, _, hse'⟩
        · rw [hse'] at hsg
          exact numR_one hc' (by rw [num14, if_pos hsg]) (numR_pow 15 (.inr rfl) (by omega) (fun h => absurd h (by decide)))
        · rw [hse'] at hsg; omega
      · rw [if_neg hsg]
        exact numR_pow 14 (.inl rfl) (by omega) (fun _ => hsg)
    · rw [hse] at he; omega
  · rw [if_neg he]
    refine numR_end hi (by rcases hs with rfl | rfl | rfl <;> rfl) (fun _ => ?_)
    rcases hs with rfl | rfl | rfl
    · rw [num10, if_neg (h46 (by decide)), if_neg he]
    · rw [num11, if_neg (h46 (by decide)), if_neg he, hd (by decide)]
    · rw [num13, if_neg he, hd (by decide)]
theorem numR_frac {p : List Int} {S : List Int} {f : Nat} {l : List Tok} {i : Nat} (s : Int) (hs : s = 10 ∨ s = 11) (hi : i ≤ p.length)
    (hd : s = 11 → dig (sees p i) = false) : NumR p s S f l i (fracP p i) := by
  unfold fracP
  by_cases he : sees p i = 46
  · rw [if_pos he]
    rcases at_or p i hi with ⟨c, hc, hdr, hse, hlt⟩ | ⟨_, _, _, hse⟩
    · rw [hse] at he
      have hn : num s c = (12, true) := by
        rcases hs with rfl | rfl
        · rw [num10, if_pos he]
        · rw [num11, if_pos he]
      refine numR_one hc hn ?_
      exact numR_digits (t := 13) (expP p) (by decide) (fun c hc => by rw [num12, hc]) (fun c hc => by rw [num13, if_neg (by have := (dig_iff c).1 hc; omega), hc]) (by omega)
        (fun hd _ => by rw [num12, hd]) (fun j hj hd => numR_exp 13 (by decide) hj (fun _ => hd) (fun h => absurd rfl h))
    · rw [hse] at he; omega
  · rw [if_neg he]
    exact numR_exp s (by omega) hi (fun h => hd (by omega)) (fun _ => he)
theorem numR_int {p : List Int} {S : List Int} {f : Nat} {l : List Tok} {i : Nat} (hi : i ≤ p.length) : NumR p 9 S f l i (intP p i) := by
  unfold intP
  by_cases he : sees p i = 48
  · rw [if_pos he]
    rcases at_or p i hi with ⟨c, hc, hdr, hse, hlt⟩ | ⟨_, _, _, hse⟩
    · rw [hse] at he
      exact numR_one hc (by rw [num9, if_pos he]) (numR_frac 10 (.inl rfl) (by omega) (fun h => absurd h (by decide)))
    · rw [hse] at he; omega
  · rw [if_neg he]
    unfold digitsP
    rcases at_or p i hi with ⟨c, hc, hdr, hse, hlt⟩ | ⟨heq, hn0, hdr, hse⟩
    · rw [hse] at he ⊢
      by_cases hg : dig c = true
      · rw [if_pos hg]
        simp only [if_true]
        have hrun := num_run 11 S f l (fun c hc => by have := (dig_iff c).1 hc; rw [num11, if_neg (by omega), if_neg (by omega), hc]) (p.drop i) i
        have hlen : ((p.drop i).takeWhile dig).length = ((p.drop (i + 1)).takeWhile dig).length + 1 := by
          rw [hdr, List.takeWhile_cons_of_pos hg, List.length_cons]
        obtain ⟨k1, _⟩ := digits_spec p 12 13 S f l (by decide) (fun c hc => by rw [num12, hc]) (fun c hc => by rw [num13, if_neg (by have := (dig_iff c).1 hc; omega), hc]) i hi (fun hd _ => by rw [num12, hd])
        unfold digitsP at k1
        rw [hse, if_pos hg] at k1
        obtain ⟨x1, x2, x3, _⟩ := k1 rfl
        simp only at x1 x2 x3
        refine numR_step (numR_frac 11 (.inr rfl) x2 (fun _ => x3)) (by omega) ?_
        have e1 : mfin ⟨9, S, f, false, [], 0, l⟩ (p.drop i) i = mfin ⟨11, S, f, false, [], 0, l⟩ (p.drop i) i := by
          rw [hdr, mfin_ok (feed_num (s' := 11) (by rw [num9, if_neg he, hg])), mfin_ok (feed_num (s' := 11) (by have := (dig_iff c).1 hg; rw [num11, if_neg (by omega), if_neg (by omega), hg]))]
        rw [e1, hrun, List.drop_drop]
        rfl
      · rw [if_neg hg]
        simp only [Bool.false_eq_true, if_false]
        refine ⟨Nat.le_refl _, hi, ?_⟩
        rw [hdr, mfin_err (bad_num (by rw [num9, if_neg he]; simpa using hg) (by decide)) (by decide)]
        rfl
    · rw [hse, if_neg (show ¬ dig 0 = true by decide)]
      simp only [Bool.false_eq_true, if_false]
      refine ⟨Nat.le_refl _, hi, ?_⟩
      rw [hdr, mfin_nil, mend_no rfl (fun h => absurd h (by simp))]
      rfl
/-- Words. -/
theorem word_spec (p : List Int) (S : List Int) (f : Nat) (l : List Tok) : ∀ (w : List Int) (i : Nat), w ≠ [] → i ≤ p.length →
    i ≤ (wordP p w i).2 ∧ (wordP p w i).2 ≤ p.length ∧ mfin ⟨17, S, f, false, w, 0, l⟩ (p.drop i) i = resB p (A 5 S f l) (wordP p w i) := by
  intro w
  induction w with
  | nil => intro i h; exact absurd rfl h
  | cons c t ih =>
    intro i _ hi
    unfold wordP
    have hfeed : ∀ x : Int, mfeed ⟨17, S, f, false, c :: t, 0, l⟩ x i = minside ⟨17, S, f, false, c :: t, 0, l⟩ x i := by
      intro x
      unfold mfeed
      rw [if_neg (show ¬ (num 17 x).2 = true by rw [num_word]; decide), if_neg (show ¬ endsB 17 = true by decide)]
      unfold mrest
      rw [if_pos (show ((17 : Int) = 6 ∨ (17 : Int) = 7 ∨ (17 : Int) = 8 ∨ (17 : Int) = 17) by decide)]
    have hin : ∀ x : Int, minside ⟨17, S, f, false, c :: t, 0, l⟩ x i = if x = c then (if t = [] then (matom ⟨17, S, f, false, [], 0, l⟩ (i + 1), 0) else (⟨17, S, f, false, t, 0, l⟩, 0)) else (⟨17, S, f, false, c :: t, 0, l⟩, 5) := by
      intro x
      unfold minside
      rw [if_neg (show ¬ (17 : Int) = 6 by decide), if_neg (show ¬ (17 : Int) = 7 by decide), if_neg (show ¬ (17 : Int) = 8 by decide)]
      rfl
    rcases at_or p i hi with ⟨x, hc, hdr, hse, hlt⟩ | ⟨heq, hn0, hdr, hse⟩
    · by_cases hx : x = c
      · rw [if_pos (by rw [hc, hx])]
        rw [hdr]
        by_cases ht : t = []
        · subst ht
          rw [mfin_ok ((hfeed x).trans ((hin x).trans (by rw [if_pos hx, if_pos rfl])))]
          refine ⟨by unfold wordP; simp only; omega, by unfold wordP; simp only; omega, ?_⟩
          unfold wordP resB A matom
          simp only
          rw [mfin_frm' _ _ _ _ (by simp) (by simp)]
          rfl
        · rw [mfin_ok ((hfeed x).trans ((hin x).trans (by rw [if_pos hx, if_neg ht])))]
          obtain ⟨h1, h2, h3⟩ := ih (i + 1) ht (by omega)
          exact ⟨by omega, h2, h3⟩
      · rw [if_neg (by rw [hc]; intro h; exact hx (by simpa using h))]
        refine ⟨Nat.le_refl _, hi, ?_⟩
        rw [hdr, mfin_err ((hfeed x).trans ((hin x).trans (by rw [if_neg hx]))) (by decide)]
        rfl
    · rw [if_neg (by rw [hn0]; simp)]
      refine ⟨Nat.le_refl _, hi, ?_⟩
      rw [hdr, mfin_nil, mend_no rfl (fun h => absurd h (by simp))]
      rfl
/-- Texts. -/
def nst (nm : Bool) : Int := if nm then 4 else 5
theorem nst_le (nm : Bool) : 0 ≤ nst nm ∧ nst nm ≤ 5 := by unfold nst; cases nm <;> simp
theorem inside_feed {m : Mach} (h : m.st = 6 ∨ m.st = 7 ∨ m.st = 8) (c i : Int) : mfeed m c i = minside m c i := by
  rw [feed_base (by omega) (by omega)]
  unfold mrest
  rw [if_pos (by omega)]
theorem feed6 (S : List Int) (f : Int) (nm : Bool) (l : List Tok) (c i : Int) : mfeed ⟨6, S, f, nm, [], 0, l⟩ c i = if c < 32 then (⟨6, S, f, nm, [], 0, l⟩, 5) else if c = 34 then (⟨nst nm, S, f, false, [], 0, l ++ [(5, f, i + 1 - f)]⟩, 0) else if c = 92 then (⟨7, S, f, nm, [], 0, l⟩, 0) else (⟨6, S, f, nm, [], 0, l⟩, 0) := by
  rw [inside_feed (.inl rfl)]; unfold minside; rw [if_pos rfl]; rfl
theorem feed7 (S : List Int) (f : Int) (nm : Bool) (l : List Tok) (c i : Int) : mfeed ⟨7, S, f, nm, [], 0, l⟩ c i = if c = 117 then (⟨8, S, f, nm, [], 4, l⟩, 0) else if escB c = true then (⟨6, S, f, nm, [], 0, l⟩, 0) else (⟨6, S, f, nm, [], 0, l⟩, 5) := by
  rw [inside_feed (.inr (.inl rfl))]; unfold minside; rw [if_neg (show ¬ (7 : Int) = 6 by decide), if_pos rfl]
theorem feed8 (S : List Int) (f : Int) (nm : Bool) (l : List Tok) (k : Int) (c i : Int) : mfeed ⟨8, S, f, nm, [], k, l⟩ c i = if hexB c = true then (if k - 1 = 0 then (⟨6, S, f, nm, [], 0, l⟩, 0) else (⟨8, S, f, nm, [], k - 1, l⟩, 0)) else (⟨8, S, f, nm, [], k, l⟩, 5) := by
  rw [inside_feed (.inr (.inr rfl))]; unfold minside; rw [if_neg (show ¬ (8 : Int) = 6 by decide), if_neg (show ¬ (8 : Int) = 7 by decide), if_pos rfl]
theorem hex_spec (p : List Int) (S : List Int) (f : Nat) (nm : Bool) (l : List Tok) : ∀ (k i : Nat), 0 < k → i ≤ p.length →
    i ≤ (hexP p k i).2 ∧ (hexP p k i).2 ≤ p.length ∧ mfin ⟨8, S, f, nm, [], k, l⟩ (p.drop i) i = resB p (fun _ => ⟨6, S, f, nm, [], 0, l⟩) (hexP p k i) := by
  intro k
  induction k with
  | zero => intro i h; omega
  | succ k ih =>
    intro i _ hi
    unfold hexP
    rcases at_or p i hi with ⟨x, hc, hdr, hse, hlt⟩ | ⟨heq, hn0, hdr, hse⟩
    · rw [hse]
      by_cases hx : hexB x = true
      · rw [if_pos hx, hdr]
        by_cases hk : k = 0
        · subst hk
          rw [mfin_ok (by rw [feed8, if_pos hx, if_pos (by omega)])]
          refine ⟨by unfold hexP; simp only; omega, by unfold hexP; simp only; omega, ?_⟩
          unfold hexP resB
          rfl
        · rw [mfin_ok (by rw [feed8, if_pos hx, if_neg (by omega)])]
          obtain ⟨h1, h2, h3⟩ := ih (i + 1) (by omega) (by omega)
          refine ⟨by omega, h2, ?_⟩
          rw [show ((k + 1 : Nat) : Int) - 1 = (k : Int) by omega]
          exact h3
      · rw [if_neg hx]
        refine ⟨Nat.le_refl _, hi, ?_⟩
        rw [hdr, mfin_err (by rw [feed8, if_neg hx]) (by decide)]
        rfl
    · rw [hse, if_neg (by decide)]
      refine ⟨Nat.le_refl _, hi, ?_⟩
      rw [hdr, mfin_nil, mend_no rfl (fun h => absurd h (by simp))]
      rfl
theorem esc_spec (p : List Int) (S : List Int) (f : Nat) (nm : Bool) (l : List Tok) (i : Nat) (hi : i ≤ p.length) :
    i ≤ (escP p i).2 ∧ (escP p i).2 ≤ p.length ∧ mfin ⟨7, S, f, nm, [], 0, l⟩ (p.drop i) i = resB p (fun _ => ⟨6, S, f, nm, [], 0, l⟩) (escP p i) := by
  unfold escP
  rcases at_or p i hi with ⟨x, hc, hdr, hse, hlt⟩ | ⟨heq, hn0, hdr, hse⟩
  · rw [hse]
    by_cases h117 : x = 117
    · rw [if_pos h117]
      obtain ⟨h1, h2, h3⟩ := hex_spec p S f nm l 4 (i + 1) (by omega) (by omega)
      refine ⟨by omega, h2, ?_⟩
      rw [hdr, mfin_ok (by rw [feed7, if_pos h117])]
      exact h3
    · rw [if_neg h117]
      by_cases he : escB x = true
      · rw [if_pos he]
        refine ⟨by simp only; omega, by simp only; omega, ?_⟩
        rw [hdr, mfin_ok (by rw [feed7, if_neg h117, if_pos he])]
        rfl
      · rw [if_neg he]
        refine ⟨Nat.le_refl _, hi, ?_⟩
        rw [hdr, mfin_err (by rw [feed7, if_neg h117, if_neg he]) (by decide)]
        rfl
  · rw [hse, if_neg (by decide), if_neg (by decide)]
    refine ⟨Nat.le_refl _, hi, ?_⟩
    rw [hdr, mfin_nil, mend_no rfl (fun h => absurd h (by simp))]
    rfl
theorem signs_spec (p : List Int) (S : List Int) (f : Nat) (nm : Bool) (l : List Tok) : ∀ (k i : Nat), i ≤ p.length → p.length + 1 ≤ i + k →
    i ≤ (signsP p k i).2 ∧ (signsP p k i).2 ≤ p.length ∧ mfin ⟨6, S, f, nm, [], 0, l⟩ (p.drop i) i = resB p (A (nst nm) S f l) (signsP p k i) := by
  intro k
  induction k with
  | zero => intro i h1 h2; omega
  | succ k ih =>
    intro i hi h2
    unfold signsP
    rcases at_or p i hi with ⟨x, hc, hdr, hse, hlt⟩ | ⟨heq, hn0, hdr, hse⟩
    · rw [hc]
      simp only
      by_cases h32 : x < 32
      · rw [if_pos h32]
        refine ⟨Nat.le_refl _, hi, ?_⟩
        rw [hdr, mfin_err (by rw [feed6, if_pos h32]) (by decide)]
        rfl
      · rw [if_neg h32]
        by_cases h34 : x = 34
        · rw [if_pos h34]
          refine ⟨by simp only; omega, by simp only; omega, ?_⟩
          rw [hdr, mfin_ok (by rw [feed6, if_neg h32, if_pos h34])]
          rw [mfin_frm' _ _ _ _ (nst_le nm).1 (nst_le nm).2]
          rfl
        · rw [if_neg h34]
          by_cases h92 : x = 92
          · rw [if_pos h92]
            obtain ⟨e1, e2, e3⟩ := esc_spec p S f nm l (i + 1) (by omega)
            rw [hdr, mfin_ok (by rw [feed6, if_neg h32, if_neg h34, if_pos h92])]
            rw [show ((i : Int) + 1) = ((i + 1 : Nat) : Int) by omega, e3]
            generalize escP p (i + 1) = r at *
            obtain ⟨b, j⟩ := r
            simp only at e1 e2
            cases b with
            | true =>
              simp only [if_true]
              obtain ⟨g1, g2, g3⟩ := ih j e2 (by omega)
              exact ⟨by omega, g2, g3⟩
            | false =>
              simp only [Bool.false_eq_true, if_false]
              exact ⟨by omega, e2, rfl⟩
          · rw [if_neg h92]
            obtain ⟨g1, g2, g3⟩ := ih (i + 1) (by omega) (by omega)
            refine ⟨by omega, g2, ?_⟩
            rw [hdr, mfin_ok (by rw [feed6, if_neg h32, if_neg h34, if_neg h92])]
            exact g3
    · rw [hn0]
      refine ⟨Nat.le_refl _, hi, ?_⟩
      rw [hdr, mfin_nil, mend_no rfl (fun h => absurd h (by simp))]
      rfl
end Go.Proofs.Ytdgdnccpginclaa.JSimb
