/- Plain: lists and objects in one another: as deep as may be, and the first that is too deep. -/
import Derived.Test.YtdgdnccpginclaaJW
namespace Go.Proofs.Ytdgdnccpginclaa.JDeep
open Go.RowKit Go.Proofs.YtdgdnccpginclaaW.PrintWords Go.Proofs.YtdgdnccpginclaaW.PrintLast Go.Proofs.YtdgdnccpginclaaW.PrintMore
open Go.Proofs.Ytdgdnccpginclaa.JDefs Go.Proofs.Ytdgdnccpginclaa.JBase Go.Proofs.Ytdgdnccpginclaa.JMem Go.Proofs.Ytdgdnccpginclaa.JInv Go.Proofs.Ytdgdnccpginclaa.JRef Go.Proofs.Ytdgdnccpginclaa.JRead Go.Proofs.Ytdgdnccpginclaa.JW
set_option linter.unusedVariables false
set_option linter.unusedSimpArgs false
set_option maxHeartbeats 8000000
set_option maxRecDepth 100000

def opn (b : Bool) : List Int := if b then [123, 34, 34, 58] else [91]
def top (b : Bool) : Int := if b then 123 else 91
def cl (c : Int) : Int := if c = 123 then 125 else 93
/-- The machine may begin a value. -/
structure Rdy (m : Mach) (S : List Int) : Prop where
  st : m.st = 0 ∨ m.st = 1
  nm : m.named = false
  sk : m.stack = S
theorem feed_begin (m : Mach) (c i : Int) (h : m.st = 0 ∨ m.st = 1) (hc : c = 123 ∨ c = 91 ∨ c = 48) : mfeed m c i = mbegin m c i := by
  have hn : ¬ (num m.st c).2 = true := by
    rcases h with h | h <;> rw [h] <;> simp [num]
  have he : ¬ endsB m.st = true := by
    rcases h with h | h <;> rw [h] <;> simp [endsB]
  unfold mfeed
  rw [if_neg hn, if_neg he]
  unfold mrest
  rw [if_neg (show ¬ (m.st = 6 ∨ m.st = 7 ∨ m.st = 8 ∨ m.st = 17) by omega), if_neg (show ¬ (m.st = 9 ∨ m.st = 12 ∨ m.st = 14 ∨ m.st = 15) by omega), if_neg (show ¬ (c = 32 ∨ c = 9 ∨ c = 10 ∨ c = 13) by omega)]
  rcases h with h | h
  · rw [if_pos h]
  · rw [if_neg (show ¬ m.st = 0 by omega), if_pos h, if_neg (show ¬ c = 93 by omega)]
theorem open_too (m : Mach) (S : List Int) (h : Rdy m S) (hS : S.length = 512) (b : Bool) (rest : List Int) (i : Int) : (mgo m (opn b ++ rest) i).2.2 = 6 := by
  have key : ∀ c, (c = 123 ∨ c = 91) → (mfeed m c i).2 = 6 := by
    intro c hc
    rw [feed_begin m c i h.st (by omega)]
    unfold mbegin
    simp only
    rw [if_pos hc, if_pos (show m.stack.length = 512 by rw [h.sk]; exact hS)]
  cases b
  · show (mgo m (91 :: rest) i).2.2 = 6
    rw [mgo_cons, if_neg (by rw [key 91 (.inr rfl)]; decide)]
    exact key 91 (.inr rfl)
  · show (mgo m (123 :: ([34, 34, 58] ++ rest)) i).2.2 = 6
    rw [mgo_cons, if_neg (by rw [key 123 (.inl rfl)]; decide)]
    exact key 123 (.inl rfl)
theorem begin_br (m : Mach) (c i : Int) (hc : c = 123 ∨ c = 91) (hS : m.stack.length ≠ 512) : mbegin m c i = (if c = 123 then ⟨2, m.stack ++ [c], i, m.named, m.left, m.count, m.l ++ [(1, i, 1)]⟩ else ⟨1, m.stack ++ [c], i, m.named, m.left, m.count, m.l ++ [(1, i, 1)]⟩, 0) := by
  unfold mbegin
  simp only
  rw [if_pos hc, if_neg hS]
  split <;> rfl
theorem open_one (m : Mach) (S : List Int) (h : Rdy m S) (hS : S.length ≠ 512) (b : Bool) (i : Int) : ∃ m', Rdy m' (S ++ [top b]) ∧ ∀ rest, mgo m (opn b ++ rest) i = mgo m' rest (i + (opn b).length) := by
  obtain ⟨st, stk, frm, nm, left, cnt, l⟩ := m
  obtain ⟨h1, h2, h3⟩ := h
  simp only at h1 h2 h3
  subst h2 h3
  cases b
  · refine ⟨(mbegin ⟨st, stk, frm, false, left, cnt, l⟩ 91 i).1, ?_, ?_⟩
    · rw [begin_br _ 91 i (.inr rfl) hS]
      exact ⟨.inr rfl, rfl, rfl⟩
    · intro rest
      show mgo _ (91 :: rest) i = _
      rw [mgo_cons, feed_begin _ 91 i h1 (by decide), if_pos (by rw [begin_br _ 91 i (.inr rfl) hS])]
      rfl
  · have e1 : mfeed ⟨st, stk, frm, false, left, cnt, l⟩ 123 i = (⟨2, stk ++ [123], i, false, left, cnt, l ++ [(1, i, 1)]⟩, 0) := by
      rw [feed_begin _ 123 i h1 (by decide)]
      rw [begin_br _ 123 i (.inl rfl) hS]
      rfl
    have e2 : ∀ l2 : List Tok, mfeed ⟨2, stk ++ [123], i, false, left, cnt, l2⟩ 34 (i + 1) = (⟨6, stk ++ [123], i + 1, true, left, cnt, l2⟩, 0) := by
      intro l2
      simp [mfeed, num, endsB, mrest]
    have e3 : ∀ l2 : List Tok, mfeed ⟨6, stk ++ [123], i + 1, true, left, cnt, l2⟩ 34 (i + 1 + 1) = (⟨4, stk ++ [123], i + 1, false, left, cnt, l2 ++ [(5, i + 1, i + 1 + 1 + 1 - (i + 1))]⟩, 0) := by
      intro l2
      simp [mfeed, num, endsB, mrest, minside, matom]
    have e4 : ∀ l2 : List Tok, mfeed ⟨4, stk ++ [123], i + 1, false, left, cnt, l2⟩ 58 (i + 1 + 1 + 1) = (⟨0, stk ++ [123], i + 1, false, left, cnt, l2 ++ [(4, i + 1 + 1 + 1, 1)]⟩, 0) := by
      intro l2
      simp [mfeed, num, endsB, mrest, mone]
    refine ⟨⟨0, stk ++ [123], i + 1, false, left, cnt, l ++ [(1, i, 1)] ++ [(5, i + 1, i + 1 + 1 + 1 - (i + 1))] ++ [(4, i + 1 + 1 + 1, 1)]⟩, ⟨.inl rfl, rfl, rfl⟩, ?_⟩
    intro rest
    show mgo _ (123 :: 34 :: 34 :: 58 :: rest) i = _
    rw [mgo_cons, e1, if_pos rfl, mgo_cons, e2, if_pos rfl, mgo_cons, e3, if_pos rfl, mgo_cons, e4, if_pos rfl]
    congr 1
    simp [opn]
    omega
def opens (b : Nat → Bool) (k : Nat) : List Int := (List.range k).flatMap fun i => opn (b i)
def tops (b : Nat → Bool) (k : Nat) : List Int := (List.range k).map fun i => top (b i)
theorem opens_succ (b : Nat → Bool) (k : Nat) : opens b (k + 1) = opens b k ++ opn (b k) := by unfold opens; rw [List.range_succ, List.flatMap_append]; simp
theorem tops_succ (b : Nat → Bool) (k : Nat) : tops b (k + 1) = tops b k ++ [top (b k)] := by unfold tops; rw [List.range_succ, List.map_append]; rfl
theorem tops_len (b : Nat → Bool) (k : Nat) : (tops b k).length = k := by unfold tops; simp
theorem open_all (b : Nat → Bool) : ∀ k : Nat, k ≤ 512 → ∃ m, Rdy m (tops b k) ∧ ∀ rest, mgo m0 (opens b k ++ rest) 0 = mgo m rest (opens b k).length := by
  intro k
  induction k with
  | zero => intro _; exact ⟨m0, ⟨.inl rfl, rfl, rfl⟩, fun rest => by simp [opens]⟩
  | succ k ih =>
    intro hk
    obtain ⟨m, hm, he⟩ := ih (by omega)
    obtain ⟨m', hm', he'⟩ := open_one m _ hm (by rw [tops_len]; omega) (b k) (opens b k).length
    refine ⟨m', by rw [tops_succ]; exact hm', fun rest => ?_⟩
    rw [opens_succ, List.append_assoc, he, he', List.length_append]
    congr 1
theorem deep_too (b : Nat → Bool) (D : Nat) (h : 512 < D) (rest : List Int) : (mread (opens b D ++ rest)).2.2 = 6 := by
  have hsplit : ∀ k : Nat, 512 < k → ∃ r2, opens b k = opens b 512 ++ (opn (b 512) ++ r2) := by
    intro k
    induction k with
    | zero => intro h; omega
    | succ k ih =>
      intro hk
      by_cases hq : k = 512
      · subst hq; exact ⟨[], by rw [opens_succ]; simp⟩
      · obtain ⟨r2, e⟩ := ih (by omega)
        exact ⟨r2 ++ opn (b k), by rw [opens_succ, e]; simp [List.append_assoc]⟩
  obtain ⟨r2, e⟩ := hsplit D h
  obtain ⟨m, hm, he⟩ := open_all b 512 (by omega)
  have e6 : (mgo m0 (opens b D ++ rest) 0).2.2 = 6 := by
    rw [e, List.append_assoc, List.append_assoc, he]
    exact open_too m _ hm (tops_len b 512) (b 512) (r2 ++ rest) _
  unfold mread
  rw [if_neg (by rw [e6]; decide)]
  exact e6
/-- Behind the innermost value: the machine at 10 or 5. -/
structure Cls (m : Mach) (S : List Int) : Prop where
  st : m.st = 5 ∨ m.st = 10
  nm : m.named = false
  sk : m.stack = S
theorem feed_zero (m : Mach) (S : List Int) (h : Rdy m S) (i : Int) : (mfeed m 48 i).2 = 0 ∧ Cls (mfeed m 48 i).1 S := by
  rw [feed_begin m 48 i h.st (by decide)]
  have e : mbegin m 48 i = ({ m with frm := i, st := 10 }, 0) := by unfold mbegin; simp
  rw [e]
  exact ⟨rfl, .inr rfl, h.nm, h.sk⟩
theorem cls_feed (m : Mach) (S : List Int) (c : Int) (hc : c = 123 ∨ c = 91) (h : Cls m (S ++ [c])) (i : Int) : (mfeed m (cl c) i).2 = 0 ∧ Cls (mfeed m (cl c) i).1 S := by
  obtain ⟨st, stk, frm, nm, left, cnt, l⟩ := m
  obtain ⟨h1, h2, h3⟩ := h
  simp only at h1 h2 h3
  subst h2 h3
  rcases hc with rfl | rfl <;> rcases h1 with rfl | rfl
  all_goals
    simp [cl, mfeed, num, dig, endsB, mrest, mnext, matom, mone]
    exact ⟨.inl rfl, rfl, rfl⟩
theorem cls_all : ∀ (j : Nat) (S : List Int) (m : Mach) (i : Int), (∀ c ∈ S, c = 123 ∨ c = 91) → Cls m S → j ≤ S.length → ∃ m', mgo m ((S.map cl).reverse.take j) i = (m', i + j, 0) ∧ Cls m' (S.take (S.length - j)) := by
  intro j
  induction j with
  | zero => intro S m i _ h _; exact ⟨m, by rw [List.take_zero, mgo_nil]; simp, by simpa using h⟩
  | succ j ih =>
    intro S m i hS h hj
    rcases List.eq_nil_or_concat S with rfl | ⟨T, c, rfl⟩
    · simp at hj
    · simp only [List.concat_eq_append] at hS h hj ⊢
      obtain ⟨f1, f2⟩ := cls_feed m T c (hS c (by simp)) h i
      obtain ⟨m', e, k⟩ := ih T _ (i + 1) (fun x hx => hS x (by simp [hx])) f2 (by simp at hj; omega)
      refine ⟨m', ?_, ?_⟩
      · rw [List.map_append, List.map_cons, List.map_nil, List.reverse_append, List.reverse_cons, List.reverse_nil, List.nil_append, List.cons_append, List.nil_append, List.take_succ_cons, mgo_cons, if_pos f1, e]
        congr 2
        omega
      · rw [List.length_append, List.length_cons, List.length_nil]
        rw [show T.length + (0 + 1) - (j + 1) = T.length - j by omega, List.take_append_of_le_length (by omega)]
        exact k
theorem tops_or (b : Nat → Bool) (k : Nat) : ∀ c ∈ tops b k, c = 123 ∨ c = 91 := by
  intro c hc
  obtain ⟨i, _, rfl⟩ := List.mem_map.1 hc
  unfold top
  cases b i <;> simp
/-- So deep, so many closed: right where all are closed. -/
theorem deep_law (b : Nat → Bool) (D j : Nat) (hD : D ≤ 512) (hj : j ≤ D) : (mread (opens b D ++ (48 :: ((tops b D).map cl).reverse.take j))).2.2 = if j = D then 0 else 5 := by
  obtain ⟨m, hm, he⟩ := open_all b D hD
  obtain ⟨f1, f2⟩ := feed_zero m _ hm (opens b D).length
  obtain ⟨m', e, k⟩ := cls_all j (tops b D) _ ((opens b D).length + 1) (tops_or b D) f2 (by rw [tops_len]; exact hj)
  have hg : mgo m0 (opens b D ++ (48 :: ((tops b D).map cl).reverse.take j)) 0 = (m', ((opens b D).length : Int) + 1 + j, 0) := by
    rw [he, mgo_cons, if_pos f1, e]
  unfold mread
  rw [hg, if_pos rfl]
  unfold mend
  simp only
  have hl : ∀ n, (mlast m' n).st = 5 := by
    intro n
    unfold mlast
    rcases k.st with h | h
    · rw [if_neg (by rw [h]; decide)]; exact h
    · rw [if_pos (by rw [h]; decide)]
      unfold matom
      simp only
      rw [k.nm]
      rfl
  by_cases hq : j = D
  · rw [if_pos hq, if_pos ⟨hl _, by rw [k.sk, tops_len, hq]; simp⟩]
  · rw [if_neg hq, if_neg (fun h => by
      have h2 := h.2
      rw [k.sk] at h2
      have := congrArg List.length h2
      rw [List.length_take, tops_len] at this
      simp at this
      omega)]
end Go.Proofs.Ytdgdnccpginclaa.JDeep
